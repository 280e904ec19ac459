/-
  The law of telling: every record's text is what the document says, and is read again; two have the same text just if they are the same.
-/
import Derived.Test.YtimeodjfihpgeaaDoorTrS
import Derived.Test.YtimeodjfihpgeaaDoorTrJ
import Derived.Test.YtimeodjfihpgeaaDoorTrH
import Derived.Test.YtimeodjfihpgeaaDoorStRx
import Derived.Test.YtimeodjfihpgeaaDoorTie
import Derived.Test.YtimeodjfihpgeaaDoorCards
import Derived.SevenTiedAt
import Derived.ChangeMaps5
import Derived.Deep.RegionHeld3
namespace Go.Proofs.YtimeodjfihpgeaaDoor.traceTells
open Go Go.ChangeShapes Go.WideShapes Go.ChangeAt Go.RowKit Go.Proofs.YtimeodjfihpgeaaDoor

theorem text_small {t : Tk} {n1 n2 n3 n4 : Nat} (h : mayT t = true) (h1 : t.dn.length = n1) (h2 : t.ct.length = n2) (h3 : t.ms.length = n3) (h4 : t.fs.length = n4) (g1 : n1 ≤ 40) (g2 : n2 ≤ 40) (g3 : n3 ≤ 40) (g4 : n4 ≤ 40) : (textU t).length ≤ 4990 := by
  obtain ⟨m0, m1, m2, m3, m4⟩ := may_parts h
  have b1 := marks_len (m := [43]) (fun v hv => ⟨(rising_bounds (by omega) m1 v hv).1, by have := (rising_bounds (by omega) m1 v hv).2; omega⟩)
  have b2 := marks_len (m := [47]) (fun v hv => ⟨(rising_bounds (by omega) m2 v hv).1, by have := (rising_bounds (by omega) m2 v hv).2; omega⟩)
  have b3 := marks_len (m := [33]) (fun v hv => ⟨(rising_bounds (by omega) m3 v hv).1, by have := (rising_bounds (by omega) m3 v hv).2; omega⟩)
  have b4 : (fatesT t.fs).length ≤ 44 * t.fs.length := by
    generalize t.fs = l at m4
    clear h4
    induction l with
    | nil => simp [fatesT]
    | cons f l ih =>
      have hf := fate_bounds (m4 f (List.mem_cons_self ..))
      have ih := ih (fun g hg => m4 g (List.mem_cons_of_mem _ hg))
      have e1 : (Lib.itoa f.1).length ≤ 21 := Lib.itoa_length_le _ (by omega) (by omega)
      have e2 : (Lib.itoa f.2.2).length ≤ 21 := Lib.itoa_length_le _ (by omega) (by omega)
      rw [show fatesT (f :: l) = fateT f ++ fatesT l from by simp [fatesT], List.length_append, List.length_cons]
      unfold fateT
      simp only [List.length_append, List.length_cons]
      omega
  have b0 : (whoT t.who).length ≤ 22 := by
    have hw := who_three m0
    have hi := fun v : Int => Lib.itoa_length_le v
    unfold whoT
    split
    · have := hi (t.who - 100) (by omega) (by omega); simp; omega
    · split
      · have := hi t.who (by omega) (by omega); simp; omega
      · simp
  unfold textU
  simp only [List.length_append, List.length_cons, List.length_nil] at b1 b2 b3 b4 b0 ⊢
  rw [h1] at b1
  rw [h2] at b2
  rw [h3] at b3
  rw [h4] at b4
  omega
theorem smallB_iff {n1 n2 n3 n4 : Nat} : smallB n1 n2 n3 n4 = true ↔ n1 ≤ 40 ∧ n2 ≤ 40 ∧ n3 ≤ 40 ∧ n4 ≤ 40 := by unfold smallB; simp
theorem eq_law {t t' : Tk} (h : mayT t = true) (h' : mayT t' = true) : (textT t' == textT t) = sameB t t' := by
  rw [Bool.eq_iff_iff, beq_iff_eq, sameB_iff]
  unfold textT
  rw [if_pos h, if_pos h']
  exact ⟨fun e => text_inj h h' e.symm, fun e => by rw [e]⟩

set_option maxHeartbeats 16000000 in
set_option maxRecDepth 100000 in
theorem walk (t : Tk) (a1 : Option Addr) (n1 c1 : Nat) (a2 : Option Addr) (n2 c2 : Nat) (a3 : Option Addr) (n3 c3 : Nat) (a4 : Option Addr) (n4 c4 : Nat) (t' : Tk) (b1 : Option Addr) (m1 d1 : Nat) (b2 : Option Addr) (m2 d2 : Nat) (b3 : Option Addr) (m3 d3 : Nat) (b4 : Option Addr) (m4 d4 : Nat) (W : World)
    (q0 : ArgTk W t a1 n1 a2 n2 a3 n3 a4 n4) (q1 : ArgTk W t' b1 m1 b2 m2 b3 m3 b4 m4) (ht : Tab W) : Calls Tryd.prog 3 #[.agg #[.int .i64 t.who, .slice a1 n1 c1, .slice a2 n2 c2, .slice a3 n3 c3, .slice a4 n4 c4], .agg #[.int .i64 t'.who, .slice b1 m1 d1, .slice b2 m2 d2, .slice b3 m3 d3, .slice b4 m4 d4]] W fun e w' => e = .returned (.bool true) ∧ Below W.heap.size W w' := by
  have HQ0 := Box.mk q0
  have HQ1 := Box.mk q1
  have HT := Box.mk ht
  have hbl : Below W.heap.size W (W.alloc (.cells #[.int .i64 t.who, .slice a1 n1 c1, .slice a2 n2 c2, .slice a3 n3 c3, .slice a4 n4 c4] 27)) := (Below.refl _ W).alloc (Nat.le_refl _) _
  have hbl2 : Below W.heap.size W ((W.alloc (.cells #[.int .i64 t.who, .slice a1 n1 c1, .slice a2 n2 c2, .slice a3 n3 c3, .slice a4 n4 c4] 27)).alloc (.cells #[.int .i64 t'.who, .slice b1 m1 d1, .slice b2 m2 d2, .slice b3 m3 d3, .slice b4 m4 d4] 27)) := hbl.alloc hbl.size _
  have HB := Box.mk hbl2
  have HX1 : Box (((W.alloc (.cells #[.int .i64 t.who, .slice a1 n1 c1, .slice a2 n2 c2, .slice a3 n3 c3, .slice a4 n4 c4] 27)).alloc (.cells #[.int .i64 t'.who, .slice b1 m1 d1, .slice b2 m2 d2, .slice b3 m3 d3, .slice b4 m4 d4] 27)).heap[W.heap.size]? = some (.cells #[.int .i64 t.who, .slice a1 n1 c1, .slice a2 n2 c2, .slice a3 n3 c3, .slice a4 n4 c4] 27 (0, 0))) := ⟨blk_alloc (blk_new _ _)⟩
  have HX2 : Box (((W.alloc (.cells #[.int .i64 t.who, .slice a1 n1 c1, .slice a2 n2 c2, .slice a3 n3 c3, .slice a4 n4 c4] 27)).alloc (.cells #[.int .i64 t'.who, .slice b1 m1 d1, .slice b2 m2 d2, .slice b3 m3 d3, .slice b4 m4 d4] 27)).heap[W.heap.size + 1]? = some (.cells #[.int .i64 t'.who, .slice b1 m1 d1, .slice b2 m2 d2, .slice b3 m3 d3, .slice b4 m4 d4] 27 (0, 0))) := ⟨by have := blk_new (W.alloc (.cells #[.int .i64 t.who, .slice a1 n1 c1, .slice a2 n2 c2, .slice a3 n3 c3, .slice a4 n4 c4] 27)) (.cells #[.int .i64 t'.who, .slice b1 m1 d1, .slice b2 m2 d2, .slice b3 m3 d3, .slice b4 m4 d4] 27); simpa using this⟩
  clear q0 q1 ht
  go_enter Tryd.func3, Tryd.ntmps3
  go_upto_region 1 with fail
  generalize hV : ((W.alloc (.cells #[.int .i64 t.who, .slice a1 n1 c1, .slice a2 n2 c2, .slice a3 n3 c3, .slice a4 n4 c4] 27)).alloc (.cells #[.int .i64 t'.who, .slice b1 m1 d1, .slice b2 m2 d2, .slice b3 m3 d3, .slice b4 m4 d4] 27)) = V at HB HX1 HX2 hbl2 ⊢
  have HVS : Box (V.heap.size = W.heap.size + 2) := ⟨by rw [← hV]; simp⟩
  clear hV hbl hbl2
  have HBW : Box (∀ w', Below V.heap.size V w' → Below W.heap.size W w') := ⟨fun w' hb => HB.out.trans (hb.mono (by have := HVS.out; omega))⟩
  have HC : Box (∀ w', Below V.heap.size V w' → w'.cell? ⟨W.heap.size, 0, none⟩ = some (.int .i64 t.who) ∧ w'.cell? ⟨W.heap.size, 1, none⟩ = some (.slice a1 n1 c1) ∧ w'.cell? ⟨W.heap.size, 2, none⟩ = some (.slice a2 n2 c2) ∧ w'.cell? ⟨W.heap.size, 3, none⟩ = some (.slice a3 n3 c3) ∧ w'.cell? ⟨W.heap.size, 4, none⟩ = some (.slice a4 n4 c4) ∧ w'.cell? ⟨(W.heap.size + 1), 0, none⟩ = some (.int .i64 t'.who) ∧ w'.cell? ⟨(W.heap.size + 1), 1, none⟩ = some (.slice b1 m1 d1) ∧ w'.cell? ⟨(W.heap.size + 1), 2, none⟩ = some (.slice b2 m2 d2) ∧ w'.cell? ⟨(W.heap.size + 1), 3, none⟩ = some (.slice b3 m3 d3) ∧ w'.cell? ⟨(W.heap.size + 1), 4, none⟩ = some (.slice b4 m4 d4)) := ⟨fun w' hb => by
    have h5 := (hb.block _ (lt_blk HX1.out)).trans HX1.out
    have h6 := (hb.block _ (lt_blk HX2.out)).trans HX2.out
    exact ⟨(cell_blk h5 0).trans rfl, (cell_blk h5 1).trans rfl, (cell_blk h5 2).trans rfl, (cell_blk h5 3).trans rfl, (cell_blk h5 4).trans rfl, (cell_blk h6 0).trans rfl, (cell_blk h6 1).trans rfl, (cell_blk h6 2).trans rfl, (cell_blk h6 3).trans rfl, (cell_blk h6 4).trans rfl⟩⟩
  have HA : Box (∀ w', Below V.heap.size V w' → Calls Tryd.prog 6 #[] w' fun e w'' => e = .returned (.bool true) ∧ Below w'.heap.size w' w'') := ⟨fun w' hb => awake25_any w' (HT.out.on (HBW.out _ hb))⟩
  have HS1 : Box (∀ w', Calls Tryd.prog 7 #[.agg #[.int .i64 t.who, .slice a1 n1 c1, .slice a2 n2 c2, .slice a3 n3 c3, .slice a4 n4 c4]] w' fun e w'' => e = .returned (.bool (smallB n1 n2 n3 n4)) ∧ Below w'.heap.size w' w'') := ⟨fun w' => small_any t.who a1 n1 c1 a2 n2 c2 a3 n3 c3 a4 n4 c4 w'⟩
  have HS2 : Box (∀ w', Calls Tryd.prog 7 #[.agg #[.int .i64 t'.who, .slice b1 m1 d1, .slice b2 m2 d2, .slice b3 m3 d3, .slice b4 m4 d4]] w' fun e w'' => e = .returned (.bool (smallB m1 m2 m3 m4)) ∧ Below w'.heap.size w' w'') := ⟨fun w' => small_any t'.who b1 m1 d1 b2 m2 d2 b3 m3 d3 b4 m4 d4 w'⟩
  have HP1 : Box (smallB n1 n2 n3 n4 = true → n1 ≤ 40 ∧ n2 ≤ 40 ∧ n3 ≤ 40 ∧ n4 ≤ 40) := ⟨smallB_iff.1⟩
  have HP2 : Box (smallB m1 m2 m3 m4 = true → m1 ≤ 40 ∧ m2 ≤ 40 ∧ m3 ≤ 40 ∧ m4 ≤ 40) := ⟨smallB_iff.1⟩
  generalize smallB n1 n2 n3 n4 = p1 at HS1 HP1
  generalize smallB m1 m2 m3 m4 = p2 at HS2 HP2
  clear HX1 HX2 HB HVS
  go_upto_region 3 with (go_at_call 6; (with_reducible refine (HA.out _ (Below.refl _ _)).mono ?_); rintro e w1 ⟨rfl, hb⟩; have HB1 := Box.mk hb; obtain ⟨e0, e1, e2, e3, e4, e5, e6, e7, e8, e9⟩ := HC.out w1 hb; clear hb)
  clear HA
  cases p1 with
  | false =>
    go_wp2_with (go_at_call 7; (with_reducible refine (HS1.out _).mono ?_); rintro e w2 ⟨rfl, hb⟩; have HB2 := Box.mk (below_step HB1.out hb); obtain ⟨f0, f1, f2, f3, f4, f5, f6, f7, f8, f9⟩ := HC.out w2 HB2.out; clear hb)
    go_ret
    exact ⟨rfl, HBW.out _ HB2.out⟩
  | true =>
  cases p2 with
  | false =>
    go_wp2_with (first
      | (go_at_call 7; (with_reducible refine (HS1.out _).mono ?_); rintro e w2 ⟨rfl, hb⟩; have HB2 := Box.mk (below_step HB1.out hb); obtain ⟨f0, f1, f2, f3, f4, f5, f6, f7, f8, f9⟩ := HC.out w2 HB2.out; clear hb)
      | (go_at_call 7; (with_reducible refine (HS2.out _).mono ?_); rintro e w3 ⟨rfl, hb⟩; have HB3 := Box.mk (below_step HB2.out hb); obtain ⟨g0, g1, g2, g3, g4, g5, g6, g7, g8, g9⟩ := HC.out w3 HB3.out; clear hb))
    go_ret
    exact ⟨rfl, HBW.out _ HB3.out⟩
  | true =>
    obtain ⟨j1, j2, j3, j4⟩ := HP1.out rfl
    obtain ⟨j5, j6, j7, j8⟩ := HP2.out rfl
    have HK1 : Box (∀ w', Below V.heap.size V w' → TkAt w' t a1 n1 a2 n2 a3 n3 a4 n4) := ⟨fun w' hb => (HQ0.out.at j1 j2 j3 j4).later (HBW.out _ hb)⟩
    have HK2 : Box (∀ w', Below V.heap.size V w' → TkAt w' t' b1 m1 b2 m2 b3 m3 b4 m4) := ⟨fun w' hb => (HQ1.out.at j5 j6 j7 j8).later (HBW.out _ hb)⟩
    have HTB : Box (∀ w', Below V.heap.size V w' → Tab w') := ⟨fun w' hb => HT.out.on (HBW.out _ hb)⟩
    obtain ⟨tx, HTX⟩ : ∃ x, Box (x = textT t) := ⟨_, ⟨rfl⟩⟩
    obtain ⟨tb, HTY⟩ : ∃ x, Box (x = textT t') := ⟨_, ⟨rfl⟩⟩
    obtain ⟨m, HMM⟩ : ∃ m, Box (m = mayT t) := ⟨_, ⟨rfl⟩⟩
    obtain ⟨m', HMN⟩ : ∃ m, Box (m = mayT t') := ⟨_, ⟨rfl⟩⟩
    have HT1 : Box (∀ w', Below V.heap.size V w' → Calls Tryd.prog 8 #[.agg #[.int .i64 t.who, .slice a1 n1 c1, .slice a2 n2 c2, .slice a3 n3 c3, .slice a4 n4 c4]] w' fun e w'' => e = .returned (strv tx) ∧ Below w'.heap.size w' w'') := ⟨fun w' hb => by rw [HTX.out]; exact ttext_any t a1 n1 c1 a2 n2 c2 a3 n3 c3 a4 n4 c4 w' (HK1.out w' hb) (HTB.out w' hb) (by omega) (by omega) (by omega) (by omega)⟩
    have HT2 : Box (∀ w', Below V.heap.size V w' → Calls Tryd.prog 9 #[.agg #[.int .i64 t.who, .slice a1 n1 c1, .slice a2 n2 c2, .slice a3 n3 c3, .slice a4 n4 c4]] w' fun e w'' => e = .returned (strv tx) ∧ Below w'.heap.size w' w'') := ⟨fun w' hb => by rw [HTX.out]; exact rttext_any t a1 n1 c1 a2 n2 c2 a3 n3 c3 a4 n4 c4 w' (HK1.out w' hb) (by omega) (by omega) (by omega) (by omega)⟩
    have HT3 : Box (∀ w', Below V.heap.size V w' → Calls Tryd.prog 8 #[.agg #[.int .i64 t'.who, .slice b1 m1 d1, .slice b2 m2 d2, .slice b3 m3 d3, .slice b4 m4 d4]] w' fun e w'' => e = .returned (strv tb) ∧ Below w'.heap.size w' w'') := ⟨fun w' hb => by rw [HTY.out]; exact ttext_any t' b1 m1 d1 b2 m2 d2 b3 m3 d3 b4 m4 d4 w' (HK2.out w' hb) (HTB.out w' hb) (by omega) (by omega) (by omega) (by omega)⟩
    have HM1 : Box (∀ w', Below V.heap.size V w' → Calls Tryd.prog 10 #[.agg #[.int .i64 t.who, .slice a1 n1 c1, .slice a2 n2 c2, .slice a3 n3 c3, .slice a4 n4 c4]] w' fun e w'' => e = .returned (.bool m) ∧ Below w'.heap.size w' w'') := ⟨fun w' hb => by rw [HMM.out]; exact tmay_any t a1 n1 c1 a2 n2 c2 a3 n3 c3 a4 n4 c4 w' (HK1.out w' hb)⟩
    have HM2 : Box (∀ w', Below V.heap.size V w' → Calls Tryd.prog 11 #[.agg #[.int .i64 t.who, .slice a1 n1 c1, .slice a2 n2 c2, .slice a3 n3 c3, .slice a4 n4 c4]] w' fun e w'' => e = .returned (.bool m) ∧ Below w'.heap.size w' w'') := ⟨fun w' hb => by rw [HMM.out]; exact trmay_any t a1 n1 c1 a2 n2 c2 a3 n3 c3 a4 n4 c4 w' (HK1.out w' hb)⟩
    have HM3 : Box (∀ w', Below V.heap.size V w' → Calls Tryd.prog 11 #[.agg #[.int .i64 t'.who, .slice b1 m1 d1, .slice b2 m2 d2, .slice b3 m3 d3, .slice b4 m4 d4]] w' fun e w'' => e = .returned (.bool m') ∧ Below w'.heap.size w' w'') := ⟨fun w' hb => by rw [HMN.out]; exact trmay_any t' b1 m1 d1 b2 m2 d2 b3 m3 d3 b4 m4 d4 w' (HK2.out w' hb)⟩
    have HLN : Box (m = true → tx.length ≤ 4990) := ⟨fun h => by
      have hm : mayT t = true := HMM.out.symm.trans h
      have hk := HK1.out V (Below.refl _ _)
      rw [HTX.out]
      unfold textT
      rw [if_pos hm]
      exact text_small hm hk.dn.1 hk.ct.1 hk.ms.1 hk.fs.1 j1 j2 j3 j4⟩
    clear HQ0 HQ1 HT HP1 HP2
    go_upto_region 6 with (first
      | (go_at_call 7; (with_reducible refine (HS1.out _).mono ?_); rintro e w2 ⟨rfl, hb⟩; have HB2 := Box.mk (below_step HB1.out hb); obtain ⟨f0, f1, f2, f3, f4, f5, f6, f7, f8, f9⟩ := HC.out w2 HB2.out; clear hb)
      | (go_at_call 7; (with_reducible refine (HS2.out _).mono ?_); rintro e w3 ⟨rfl, hb⟩; have HB3 := Box.mk (below_step HB2.out hb); obtain ⟨g0, g1, g2, g3, g4, g5, g6, g7, g8, g9⟩ := HC.out w3 HB3.out; clear hb)
      | (go_at_call 8; (with_reducible refine (HT1.out _ HB3.out).mono ?_); rintro e w4 ⟨rfl, hb⟩; have HB4 := Box.mk (below_step HB3.out hb); obtain ⟨h0, h1, h2, h3, h4, h5, h6, h7, h8, h9⟩ := HC.out w4 HB4.out; clear hb))
    clear HS1 HS2 e0 f0 g0 e1 f1 g1 e2 f2 g2 e3 f3 g3 e4 f4 g4 e5 f5 g5 e6 f6 g6 e7 f7 g7 e8 f8 g8 e9 f9 g9 HB1 HB2 HB3
    have hxx : (tx != tx) = false := by simp
    have hmm : (m != m) = false := by simp
    have hbr := HB4.out
    have hbd := hbr.drew
    go_region_held3 (fun w' => w'.cell? ⟨W.heap.size, 0, none⟩ = some (.int .i64 t.who) ∧ w'.cell? ⟨W.heap.size, 1, none⟩ = some (.slice a1 n1 c1) ∧ w'.cell? ⟨W.heap.size, 2, none⟩ = some (.slice a2 n2 c2) ∧ w'.cell? ⟨W.heap.size, 3, none⟩ = some (.slice a3 n3 c3) ∧ w'.cell? ⟨W.heap.size, 4, none⟩ = some (.slice a4 n4 c4) ∧ Below V.heap.size V w') (simp [*, below_drew])
      (first
        | (go_at_call 9; (with_reducible refine (HT2.out _ (by first | assumption | exact hbr.drew)).mono ?_); rintro e w5 ⟨rfl, hb⟩; have hb7 := below_step (w := V) (by first | assumption | exact hbr.drew) hb; obtain ⟨l0, l1, l2, l3, l4, l5, l6, l7, l8, l9⟩ := HC.out w5 hb7)
        | (go_at_call 10; (with_reducible refine (HM1.out _ (by first | assumption | exact hbr.drew)).mono ?_); rintro e w5 ⟨rfl, hb⟩; have hb7 := below_step (w := V) (by first | assumption | exact hbr.drew) hb; obtain ⟨l0, l1, l2, l3, l4, l5, l6, l7, l8, l9⟩ := HC.out w5 hb7)
        | (go_at_call 11; (with_reducible refine (HM2.out _ (by first | assumption | exact hbr.drew)).mono ?_); rintro e w5 ⟨rfl, hb⟩; have hb7 := below_step (w := V) (by first | assumption | exact hbr.drew) hb; obtain ⟨l0, l1, l2, l3, l4, l5, l6, l7, l8, l9⟩ := HC.out w5 hb7))
    have HB5 : Box (Below V.heap.size V w5) := ⟨hb7⟩
    clear hxx hmm hbr hbd HT2 HM1 h0 h1 h2 h3 h4 h5 h6 h7 h8 h9
    cases m with
    | false =>
      have htx : tx = [] := by rw [HTX.out]; unfold textT; rw [if_neg (by rw [← HMM.out]; simp)]
      subst htx
      go_wp2_with (go_at_call 11; (with_reducible refine (HM2.out _ HB5.out).mono ?_); rintro e w6 ⟨rfl, hb⟩; have HB6 := Box.mk (below_step HB5.out hb); clear hb)
      go_ret
      exact ⟨by first | rfl | simp, HBW.out _ HB6.out⟩
    | true =>
      have hmt : mayT t = true := HMM.out.symm
      have htu : textU t = tx := by rw [HTX.out]; unfold textT; rw [if_pos hmt]
      have HP : Box (∀ w', Below V.heap.size V w' → Calls Tryd.prog 12 #[strv tx] w' fun e w'' => TYes t w' e w'') := ⟨fun w' hb => tparse_yes (HLN.out rfl) hmt htu w' (HTB.out w' hb)⟩
      have HNE : Box (tx ≠ []) := ⟨by rw [← htu]; exact text_ne⟩
      have HMT := Box.mk hmt
      clear hmt htu HLN
      go_upto_region 11 with (first
        | (go_at_call 11; (with_reducible refine (HM2.out _ HB5.out).mono ?_); rintro e w6 ⟨rfl, hb⟩; have HB6 := Box.mk (below_step HB5.out hb); clear hb)
        | (go_at_call 12; (with_reducible refine (HP.out _ HB6.out).mono ?_); rintro e w7 ⟨x1, k1, y1, x2, k2, y2, x3, k3, y3, x4, k4, y4, rfl, hk, hb⟩; have HB7 := Box.mk (below_step HB6.out hb); have HK7 := Box.mk hk; clear hb hk))
      have hb8 : Below (World.heap w7).size w7 (World.alloc w7 (.cells #[.int .i64 t.who, .slice x1 k1 y1, .slice x2 k2 y2, .slice x3 k3 y3, .slice x4 k4 y4] 27)) := (Below.refl _ _).alloc (Nat.le_refl _) _
      have HX8 : Box ((World.alloc w7 (.cells #[.int .i64 t.who, .slice x1 k1 y1, .slice x2 k2 y2, .slice x3 k3 y3, .slice x4 k4 y4] 27)).heap[(World.heap w7).size]? = some (.cells #[.int .i64 t.who, .slice x1 k1 y1, .slice x2 k2 y2, .slice x3 k3 y3, .slice x4 k4 y4] 27 (0, 0))) := ⟨blk_new _ _⟩
      have HB8 := Box.mk (below_step HB7.out hb8)
      have HK8 := Box.mk (HK7.out.later hb8)
      clear HB6 HB7 HK7 hb8 HP HB5 HM2
      generalize World.alloc w7 (.cells #[.int .i64 t.who, .slice x1 k1 y1, .slice x2 k2 y2, .slice x3 k3 y3, .slice x4 k4 y4] 27) = V8 at HX8 HB8 HK8 ⊢
      generalize (World.heap w7).size = TB at HX8 ⊢
      have HCC : Box (∀ w', Below V8.heap.size V8 w' → (w'.cell? ⟨TB, 0, none⟩ = some (.int .i64 t.who) ∧ w'.cell? ⟨TB, 1, none⟩ = some (.slice x1 k1 y1) ∧ w'.cell? ⟨TB, 2, none⟩ = some (.slice x2 k2 y2) ∧ w'.cell? ⟨TB, 3, none⟩ = some (.slice x3 k3 y3) ∧ w'.cell? ⟨TB, 4, none⟩ = some (.slice x4 k4 y4) ∧ w'.cell? ⟨W.heap.size, 0, none⟩ = some (.int .i64 t.who) ∧ w'.cell? ⟨W.heap.size, 1, none⟩ = some (.slice a1 n1 c1) ∧ w'.cell? ⟨W.heap.size, 2, none⟩ = some (.slice a2 n2 c2) ∧ w'.cell? ⟨W.heap.size, 3, none⟩ = some (.slice a3 n3 c3) ∧ w'.cell? ⟨W.heap.size, 4, none⟩ = some (.slice a4 n4 c4) ∧ w'.cell? ⟨(W.heap.size + 1), 0, none⟩ = some (.int .i64 t'.who) ∧ w'.cell? ⟨(W.heap.size + 1), 1, none⟩ = some (.slice b1 m1 d1) ∧ w'.cell? ⟨(W.heap.size + 1), 2, none⟩ = some (.slice b2 m2 d2) ∧ w'.cell? ⟨(W.heap.size + 1), 3, none⟩ = some (.slice b3 m3 d3) ∧ w'.cell? ⟨(W.heap.size + 1), 4, none⟩ = some (.slice b4 m4 d4)) ∧ Below V8.heap.size V8 w') := ⟨fun w' hb => by
        have h5 := (hb.block _ (lt_blk HX8.out)).trans HX8.out
        obtain ⟨z0, z1, z2, z3, z4, z5, z6, z7, z8, z9⟩ := HC.out w' (below_step HB8.out hb)
        exact ⟨⟨(cell_blk h5 0).trans rfl, (cell_blk h5 1).trans rfl, (cell_blk h5 2).trans rfl, (cell_blk h5 3).trans rfl, (cell_blk h5 4).trans rfl, z0, z1, z2, z3, z4, z5, z6, z7, z8, z9⟩, hb⟩⟩
      have HSA : Box (∀ w', Below V8.heap.size V8 w' → Calls Tryd.prog 13 #[.agg #[.int .i64 t.who, .slice x1 k1 y1, .slice x2 k2 y2, .slice x3 k3 y3, .slice x4 k4 y4], .agg #[.int .i64 t.who, .slice a1 n1 c1, .slice a2 n2 c2, .slice a3 n3 c3, .slice a4 n4 c4]] w' fun e w'' => e = .returned (.bool true) ∧ Below w'.heap.size w' w'') := ⟨fun w' hb => by
        have := tsame_any t x1 k1 y1 x2 k2 y2 x3 k3 y3 x4 k4 y4 t a1 n1 c1 a2 n2 c2 a3 n3 c3 a4 n4 c4 w' (HK8.out.later hb) (HK1.out w' (below_step HB8.out hb))
        rw [sameB_self] at this
        exact this⟩
      have HSB : Box (∀ w', Below V8.heap.size V8 w' → Calls Tryd.prog 13 #[.agg #[.int .i64 t.who, .slice a1 n1 c1, .slice a2 n2 c2, .slice a3 n3 c3, .slice a4 n4 c4], .agg #[.int .i64 t'.who, .slice b1 m1 d1, .slice b2 m2 d2, .slice b3 m3 d3, .slice b4 m4 d4]] w' fun e w'' => e = .returned (.bool (sameB t t')) ∧ Below w'.heap.size w' w'') := ⟨fun w' hb => tsame_any t a1 n1 c1 a2 n2 c2 a3 n3 c3 a4 n4 c4 t' b1 m1 d1 b2 m2 d2 b3 m3 d3 b4 m4 d4 w' (HK1.out w' (below_step HB8.out hb)) (HK2.out w' (below_step HB8.out hb))⟩
      have HBX : Box (∀ w', Below V8.heap.size V8 w' → Below W.heap.size W w') := ⟨fun w' hb => HBW.out _ (below_step HB8.out hb)⟩
      have HT4 : Box (∀ w', Below V8.heap.size V8 w' → Calls Tryd.prog 8 #[.agg #[.int .i64 t'.who, .slice b1 m1 d1, .slice b2 m2 d2, .slice b3 m3 d3, .slice b4 m4 d4]] w' fun e w'' => e = .returned (strv tb) ∧ Below w'.heap.size w' w'') := ⟨fun w' hb => HT3.out w' (below_step HB8.out hb)⟩
      have HM4 : Box (∀ w', Below V8.heap.size V8 w' → Calls Tryd.prog 11 #[.agg #[.int .i64 t'.who, .slice b1 m1 d1, .slice b2 m2 d2, .slice b3 m3 d3, .slice b4 m4 d4]] w' fun e w'' => e = .returned (.bool m') ∧ Below w'.heap.size w' w'') := ⟨fun w' hb => HM3.out w' (below_step HB8.out hb)⟩
      have hSd := HCC.out V8.drew (Below.refl V8.heap.size V8).drew
      obtain ⟨q, HQ⟩ : ∃ q, Box (q = sameB t t') := ⟨_, ⟨rfl⟩⟩
      rw [← HQ.out] at HSB
      clear HC HB8 HX8 HK8 HBW HT3 HM3 HT1 HB4 HTB l0 l1 l2 l3 l4 l5 l6 l7 l8 l9
      cases m' with
      | true =>
        have hq : (tb == tx) = q := by rw [HTX.out, HTY.out, HQ.out]; exact eq_law HMT.out HMN.out.symm
        have hqq : (q == q) = true := by simp
        clear HTX HTY HMM HMN HQ
        refine wp_region_held_drew (S := (fun w' => (w'.cell? ⟨TB, 0, none⟩ = some (.int .i64 t.who) ∧ w'.cell? ⟨TB, 1, none⟩ = some (.slice x1 k1 y1) ∧ w'.cell? ⟨TB, 2, none⟩ = some (.slice x2 k2 y2) ∧ w'.cell? ⟨TB, 3, none⟩ = some (.slice x3 k3 y3) ∧ w'.cell? ⟨TB, 4, none⟩ = some (.slice x4 k4 y4) ∧ w'.cell? ⟨W.heap.size, 0, none⟩ = some (.int .i64 t.who) ∧ w'.cell? ⟨W.heap.size, 1, none⟩ = some (.slice a1 n1 c1) ∧ w'.cell? ⟨W.heap.size, 2, none⟩ = some (.slice a2 n2 c2) ∧ w'.cell? ⟨W.heap.size, 3, none⟩ = some (.slice a3 n3 c3) ∧ w'.cell? ⟨W.heap.size, 4, none⟩ = some (.slice a4 n4 c4) ∧ w'.cell? ⟨(W.heap.size + 1), 0, none⟩ = some (.int .i64 t'.who) ∧ w'.cell? ⟨(W.heap.size + 1), 1, none⟩ = some (.slice b1 m1 d1) ∧ w'.cell? ⟨(W.heap.size + 1), 2, none⟩ = some (.slice b2 m2 d2) ∧ w'.cell? ⟨(W.heap.size + 1), 3, none⟩ = some (.slice b3 m3 d3) ∧ w'.cell? ⟨(W.heap.size + 1), 4, none⟩ = some (.slice b4 m4 d4)) ∧ Below V8.heap.size V8 w')) (by kernel_rfl) ?_ (fun hHeld => ?_)
        · exact hSd
        refine wpAnyH_take (i := 0) (v := ?v1_0) rfl (by kernel_rfl) (by kernel_rfl) (by kernel_rfl) (fun _ _ _ h => h) ?y1_0 (by assumption) ?r1_0
        case y1_0 => first | (refine Or.inr ⟨by rfl, ?_⟩; with_reducible rfl) | (refine Or.inl ⟨by rfl, ?_⟩; intro w hSw; (try dsimp only at hSw); (try simp only [List.getElem_toArray, List.getElem_cons_succ, List.getElem_cons_zero]); go_simp; all_goals (with_reducible rfl))
        try simp only [Act.put, List.setIfInBounds_toArray, List.set_cons_zero, List.set_cons_succ, List.getElem_toArray, List.getElem_cons_succ, List.getElem_cons_zero]
        refine wpAnyH_take (i := 1) (v := ?v1_1) rfl (by kernel_rfl) (by kernel_rfl) (by kernel_rfl) (fun _ _ _ h => h) ?y1_1 (by assumption) ?r1_1
        case y1_1 => first | (refine Or.inr ⟨by rfl, ?_⟩; with_reducible rfl) | (refine Or.inl ⟨by rfl, ?_⟩; intro w hSw; (try dsimp only at hSw); (try simp only [List.getElem_toArray, List.getElem_cons_succ, List.getElem_cons_zero]); go_simp; all_goals (with_reducible rfl))
        try simp only [Act.put, List.setIfInBounds_toArray, List.set_cons_zero, List.set_cons_succ, List.getElem_toArray, List.getElem_cons_succ, List.getElem_cons_zero]
        refine wpAnyH_take (i := 2) (v := ?v1_2) rfl (by kernel_rfl) (by kernel_rfl) (by kernel_rfl) (fun _ _ _ h => h) ?y1_2 (by assumption) ?r1_2
        case y1_2 => first | (refine Or.inr ⟨by rfl, ?_⟩; with_reducible rfl) | (refine Or.inl ⟨by rfl, ?_⟩; intro w hSw; (try dsimp only at hSw); (try simp only [List.getElem_toArray, List.getElem_cons_succ, List.getElem_cons_zero]); go_simp; all_goals (with_reducible rfl))
        try simp only [Act.put, List.setIfInBounds_toArray, List.set_cons_zero, List.set_cons_succ, List.getElem_toArray, List.getElem_cons_succ, List.getElem_cons_zero]
        refine wpAnyH_take (i := 3) (v := ?v1_3) rfl (by kernel_rfl) (by kernel_rfl) (by kernel_rfl) (fun _ _ _ h => h) ?y1_3 (by assumption) ?r1_3
        case y1_3 => first | (refine Or.inr ⟨by rfl, ?_⟩; with_reducible rfl) | (refine Or.inl ⟨by rfl, ?_⟩; intro w hSw; (try dsimp only at hSw); (try simp only [List.getElem_toArray, List.getElem_cons_succ, List.getElem_cons_zero]); go_simp; all_goals (with_reducible rfl))
        try simp only [Act.put, List.setIfInBounds_toArray, List.set_cons_zero, List.set_cons_succ, List.getElem_toArray, List.getElem_cons_succ, List.getElem_cons_zero]
        refine wpAnyH_take (i := 4) (v := ?v1_4) rfl (by kernel_rfl) (by kernel_rfl) (by kernel_rfl) (fun _ _ _ h => h) ?y1_4 (by assumption) ?r1_4
        case y1_4 => first | (refine Or.inr ⟨by rfl, ?_⟩; with_reducible rfl) | (refine Or.inl ⟨by rfl, ?_⟩; intro w hSw; (try dsimp only at hSw); (try simp only [List.getElem_toArray, List.getElem_cons_succ, List.getElem_cons_zero]); go_simp; all_goals (with_reducible rfl))
        try simp only [Act.put, List.setIfInBounds_toArray, List.set_cons_zero, List.set_cons_succ, List.getElem_toArray, List.getElem_cons_succ, List.getElem_cons_zero]
        refine wpAnyH_ready (rs := [5]) (by kernel_rfl) (by simp) ?_
        refine AllReadyH.cons rfl (fun K hK => ?_) AllReadyH.nil
        try simp only [List.getElem_toArray, List.getElem_cons_succ, List.getElem_cons_zero]
        go_simp
        (go_at_call 13; (with_reducible refine (HSA.out _ (Below.refl V8.heap.size V8).drew).mono ?_); rintro e u1 ⟨rfl, hb⟩; have hu1 := below_step (w := V8) (Below.refl V8.heap.size V8).drew hb; have hS1 := HCC.out u1 hu1; clear hb)
        refine hK.out _ _ (by exact hS1) (fun hHeld => ?_)
        clear hK K
        try simp only [Act.put, List.setIfInBounds_toArray, List.set_cons_zero, List.set_cons_succ, List.getElem_toArray, List.getElem_cons_succ, List.getElem_cons_zero]
        refine wpAnyH_take (i := 6) (v := ?v1_6) rfl (by kernel_rfl) (by kernel_rfl) (by kernel_rfl) (fun _ _ _ h => h) ?y1_6 (by assumption) ?r1_6
        case y1_6 => first | (refine Or.inr ⟨by rfl, ?_⟩; with_reducible rfl) | (refine Or.inl ⟨by rfl, ?_⟩; intro w hSw; (try dsimp only at hSw); (try simp only [List.getElem_toArray, List.getElem_cons_succ, List.getElem_cons_zero]); go_simp; all_goals (with_reducible rfl))
        try simp only [Act.put, List.setIfInBounds_toArray, List.set_cons_zero, List.set_cons_succ, List.getElem_toArray, List.getElem_cons_succ, List.getElem_cons_zero]
        refine wpAnyH_take (i := 7) (v := ?v1_7) rfl (by kernel_rfl) (by kernel_rfl) (by kernel_rfl) (fun _ _ _ h => h) ?y1_7 (by assumption) ?r1_7
        case y1_7 => first | (refine Or.inr ⟨by rfl, ?_⟩; with_reducible rfl) | (refine Or.inl ⟨by rfl, ?_⟩; intro w hSw; (try dsimp only at hSw); (try simp only [List.getElem_toArray, List.getElem_cons_succ, List.getElem_cons_zero]); go_simp; all_goals (with_reducible rfl))
        try simp only [Act.put, List.setIfInBounds_toArray, List.set_cons_zero, List.set_cons_succ, List.getElem_toArray, List.getElem_cons_succ, List.getElem_cons_zero]
        refine wpAnyH_take (i := 8) (v := ?v1_8) rfl (by kernel_rfl) (by kernel_rfl) (by kernel_rfl) (fun _ _ _ h => h) ?y1_8 (by assumption) ?r1_8
        case y1_8 => first | (refine Or.inr ⟨by rfl, ?_⟩; with_reducible rfl) | (refine Or.inl ⟨by rfl, ?_⟩; intro w hSw; (try dsimp only at hSw); (try simp only [List.getElem_toArray, List.getElem_cons_succ, List.getElem_cons_zero]); go_simp; all_goals (with_reducible rfl))
        try simp only [Act.put, List.setIfInBounds_toArray, List.set_cons_zero, List.set_cons_succ, List.getElem_toArray, List.getElem_cons_succ, List.getElem_cons_zero]
        refine wpAnyH_take (i := 10) (v := ?v1_10) rfl (by kernel_rfl) (by kernel_rfl) (by kernel_rfl) (fun _ _ _ h => h) ?y1_10 (by assumption) ?r1_10
        case y1_10 => first | (refine Or.inr ⟨by rfl, ?_⟩; with_reducible rfl) | (refine Or.inl ⟨by rfl, ?_⟩; intro w hSw; (try dsimp only at hSw); (try simp only [List.getElem_toArray, List.getElem_cons_succ, List.getElem_cons_zero]); go_simp; all_goals (with_reducible rfl))
        try simp only [Act.put, List.setIfInBounds_toArray, List.set_cons_zero, List.set_cons_succ, List.getElem_toArray, List.getElem_cons_succ, List.getElem_cons_zero]
        refine wpAnyH_take (i := 12) (v := ?v1_12) rfl (by kernel_rfl) (by kernel_rfl) (by kernel_rfl) (fun _ _ _ h => h) ?y1_12 (by assumption) ?r1_12
        case y1_12 => first | (refine Or.inr ⟨by rfl, ?_⟩; with_reducible rfl) | (refine Or.inl ⟨by rfl, ?_⟩; intro w hSw; (try dsimp only at hSw); (try simp only [List.getElem_toArray, List.getElem_cons_succ, List.getElem_cons_zero]); go_simp; all_goals (with_reducible rfl))
        try simp only [Act.put, List.setIfInBounds_toArray, List.set_cons_zero, List.set_cons_succ, List.getElem_toArray, List.getElem_cons_succ, List.getElem_cons_zero]
        refine wpAnyH_ready (rs := [9]) (by kernel_rfl) (by simp) ?_
        refine AllReadyH.cons rfl (fun K hK => ?_) AllReadyH.nil
        try simp only [List.getElem_toArray, List.getElem_cons_succ, List.getElem_cons_zero]
        go_simp
        (go_at_call 8; (with_reducible refine (HT4.out _ hu1).mono ?_); rintro e u2 ⟨rfl, hb⟩; have hu2 := below_step (w := V8) hu1 hb; have hS2 := HCC.out u2 hu2; clear hb)
        refine hK.out _ _ (by exact hS2) (fun hHeld => ?_)
        clear hK K
        try simp only [Act.put, List.setIfInBounds_toArray, List.set_cons_zero, List.set_cons_succ, List.getElem_toArray, List.getElem_cons_succ, List.getElem_cons_zero]
        refine wpAnyH_take (i := 11) (v := ?v1_11) rfl (by kernel_rfl) (by kernel_rfl) (by kernel_rfl) (fun _ _ _ h => h) ?y1_11 (by assumption) ?r1_11
        case y1_11 => first | (refine Or.inr ⟨by rfl, ?_⟩; with_reducible rfl) | (refine Or.inl ⟨by rfl, ?_⟩; intro w hSw; (try dsimp only at hSw); (try simp only [List.getElem_toArray, List.getElem_cons_succ, List.getElem_cons_zero]); go_simp; all_goals (with_reducible rfl))
        try simp only [Act.put, List.setIfInBounds_toArray, List.set_cons_zero, List.set_cons_succ, List.getElem_toArray, List.getElem_cons_succ, List.getElem_cons_zero]
        refine wpAnyH_ready (rs := [13]) (by kernel_rfl) (by simp) ?_
        refine AllReadyH.cons rfl (fun K hK => ?_) AllReadyH.nil
        try simp only [List.getElem_toArray, List.getElem_cons_succ, List.getElem_cons_zero]
        go_simp
        (go_at_call 11; (with_reducible refine (HM4.out _ hu2).mono ?_); rintro e u3 ⟨rfl, hb⟩; have hu3 := below_step (w := V8) hu2 hb; have hS3 := HCC.out u3 hu3; clear hb)
        refine hK.out _ _ (by exact hS3) (fun hHeld => ?_)
        clear hK K
        try simp only [Act.put, List.setIfInBounds_toArray, List.set_cons_zero, List.set_cons_succ, List.getElem_toArray, List.getElem_cons_succ, List.getElem_cons_zero]
        refine wpAnyH_take (i := 14) (v := ?v1_14) rfl (by kernel_rfl) (by kernel_rfl) (by kernel_rfl) (fun _ _ _ h => h) ?y1_14 (by assumption) ?r1_14
        case y1_14 => first | (refine Or.inr ⟨by rfl, ?_⟩; with_reducible rfl) | (refine Or.inl ⟨by rfl, ?_⟩; intro w hSw; (try dsimp only at hSw); (try simp only [List.getElem_toArray, List.getElem_cons_succ, List.getElem_cons_zero]); go_simp; all_goals (with_reducible rfl))
        try simp only [Act.put, List.setIfInBounds_toArray, List.set_cons_zero, List.set_cons_succ, List.getElem_toArray, List.getElem_cons_succ, List.getElem_cons_zero]
        refine wpAnyH_take (i := 15) (v := ?v1_15) rfl (by kernel_rfl) (by kernel_rfl) (by kernel_rfl) (fun _ _ _ h => h) ?y1_15 (by assumption) ?r1_15
        case y1_15 => first | (refine Or.inr ⟨by rfl, ?_⟩; with_reducible rfl) | (refine Or.inl ⟨by rfl, ?_⟩; intro w hSw; (try dsimp only at hSw); (try simp only [List.getElem_toArray, List.getElem_cons_succ, List.getElem_cons_zero]); go_simp; all_goals (with_reducible rfl))
        try simp only [Act.put, List.setIfInBounds_toArray, List.set_cons_zero, List.set_cons_succ, List.getElem_toArray, List.getElem_cons_succ, List.getElem_cons_zero]
        refine wpAnyH_take (i := 16) (v := ?v1_16) rfl (by kernel_rfl) (by kernel_rfl) (by kernel_rfl) (fun _ _ _ h => h) ?y1_16 (by assumption) ?r1_16
        case y1_16 => first | (refine Or.inr ⟨by rfl, ?_⟩; with_reducible rfl) | (refine Or.inl ⟨by rfl, ?_⟩; intro w hSw; (try dsimp only at hSw); (try simp only [List.getElem_toArray, List.getElem_cons_succ, List.getElem_cons_zero]); go_simp; all_goals (with_reducible rfl))
        try simp only [Act.put, List.setIfInBounds_toArray, List.set_cons_zero, List.set_cons_succ, List.getElem_toArray, List.getElem_cons_succ, List.getElem_cons_zero]
        refine wpAnyH_ready (rs := [17]) (by kernel_rfl) (by simp) ?_
        refine AllReadyH.cons rfl (fun K hK => ?_) AllReadyH.nil
        try simp only [List.getElem_toArray, List.getElem_cons_succ, List.getElem_cons_zero]
        go_simp
        (go_at_call 13; (with_reducible refine (HSB.out _ hu3).mono ?_); rintro e u4 ⟨rfl, hb⟩; have hu4 := below_step (w := V8) hu3 hb; have hS4 := HCC.out u4 hu4; clear hb)
        refine hK.out _ _ (by exact hS4) (fun hHeld => ?_)
        clear hK K
        try simp only [Act.put, List.setIfInBounds_toArray, List.set_cons_zero, List.set_cons_succ, List.getElem_toArray, List.getElem_cons_succ, List.getElem_cons_zero]
        refine wpAnyH_take (i := 18) (v := ?v1_18) rfl (by kernel_rfl) (by kernel_rfl) (by kernel_rfl) (fun _ _ _ h => h) ?y1_18 (by assumption) ?r1_18
        case y1_18 => first | (refine Or.inr ⟨by rfl, ?_⟩; with_reducible rfl) | (refine Or.inl ⟨by rfl, ?_⟩; intro w hSw; (try dsimp only at hSw); (try simp only [List.getElem_toArray, List.getElem_cons_succ, List.getElem_cons_zero]); go_simp; all_goals (with_reducible rfl))
        try simp only [Act.put, List.setIfInBounds_toArray, List.set_cons_zero, List.set_cons_succ, List.getElem_toArray, List.getElem_cons_succ, List.getElem_cons_zero]
        refine wpAnyH_take (i := 19) (v := ?v1_19) rfl (by kernel_rfl) (by kernel_rfl) (by kernel_rfl) (fun _ _ _ h => h) ?y1_19 (by assumption) ?r1_19
        case y1_19 => first | (refine Or.inr ⟨by rfl, ?_⟩; with_reducible rfl) | (refine Or.inl ⟨by rfl, ?_⟩; intro w hSw; (try dsimp only at hSw); (try simp only [List.getElem_toArray, List.getElem_cons_succ, List.getElem_cons_zero]); go_simp; all_goals (with_reducible rfl))
        try simp only [Act.put, List.setIfInBounds_toArray, List.set_cons_zero, List.set_cons_succ, List.getElem_toArray, List.getElem_cons_succ, List.getElem_cons_zero]
        refine wpAnyH_take (i := 20) (v := ?v1_20) rfl (by kernel_rfl) (by kernel_rfl) (by kernel_rfl) (fun _ _ _ h => h) ?y1_20 (by assumption) ?r1_20
        case y1_20 => first | (refine Or.inr ⟨by rfl, ?_⟩; with_reducible rfl) | (refine Or.inl ⟨by rfl, ?_⟩; intro w hSw; (try dsimp only at hSw); (try simp only [List.getElem_toArray, List.getElem_cons_succ, List.getElem_cons_zero]); go_simp; all_goals (with_reducible rfl))
        try simp only [Act.put, List.setIfInBounds_toArray, List.set_cons_zero, List.set_cons_succ, List.getElem_toArray, List.getElem_cons_succ, List.getElem_cons_zero]
        refine wpAnyH_take (i := 21) (v := ?v1_21) rfl (by kernel_rfl) (by kernel_rfl) (by kernel_rfl) (fun _ _ _ h => h) ?y1_21 (by assumption) ?r1_21
        case y1_21 => first | (refine Or.inr ⟨by rfl, ?_⟩; with_reducible rfl) | (refine Or.inl ⟨by rfl, ?_⟩; intro w hSw; (try dsimp only at hSw); (try simp only [List.getElem_toArray, List.getElem_cons_succ, List.getElem_cons_zero]); go_simp; all_goals (with_reducible rfl))
        try simp only [Act.put, List.setIfInBounds_toArray, List.set_cons_zero, List.set_cons_succ, List.getElem_toArray, List.getElem_cons_succ, List.getElem_cons_zero]
        refine wpAnyH_done (by kernel_rfl) ?_ _
        go_wp2
        go_ret
        exact ⟨by first | rfl | simp, HBX.out _ hu4⟩
      | false =>
        have htb : tb = [] := by rw [HTY.out]; unfold textT; rw [if_neg (by rw [← HMN.out]; simp)]
        subst htb
        have hq : (([] : Bs) == tx) = false := by
          have := HNE.out
          cases tx with
          | nil => exact absurd rfl this
          | cons _ _ => rfl
        clear HTX HTY HMM HMN HQ
        refine wp_region_held_drew (S := (fun w' => (w'.cell? ⟨TB, 0, none⟩ = some (.int .i64 t.who) ∧ w'.cell? ⟨TB, 1, none⟩ = some (.slice x1 k1 y1) ∧ w'.cell? ⟨TB, 2, none⟩ = some (.slice x2 k2 y2) ∧ w'.cell? ⟨TB, 3, none⟩ = some (.slice x3 k3 y3) ∧ w'.cell? ⟨TB, 4, none⟩ = some (.slice x4 k4 y4) ∧ w'.cell? ⟨W.heap.size, 0, none⟩ = some (.int .i64 t.who) ∧ w'.cell? ⟨W.heap.size, 1, none⟩ = some (.slice a1 n1 c1) ∧ w'.cell? ⟨W.heap.size, 2, none⟩ = some (.slice a2 n2 c2) ∧ w'.cell? ⟨W.heap.size, 3, none⟩ = some (.slice a3 n3 c3) ∧ w'.cell? ⟨W.heap.size, 4, none⟩ = some (.slice a4 n4 c4) ∧ w'.cell? ⟨(W.heap.size + 1), 0, none⟩ = some (.int .i64 t'.who) ∧ w'.cell? ⟨(W.heap.size + 1), 1, none⟩ = some (.slice b1 m1 d1) ∧ w'.cell? ⟨(W.heap.size + 1), 2, none⟩ = some (.slice b2 m2 d2) ∧ w'.cell? ⟨(W.heap.size + 1), 3, none⟩ = some (.slice b3 m3 d3) ∧ w'.cell? ⟨(W.heap.size + 1), 4, none⟩ = some (.slice b4 m4 d4)) ∧ Below V8.heap.size V8 w')) (by kernel_rfl) ?_ (fun hHeld => ?_)
        · exact hSd
        refine wpAnyH_take (i := 0) (v := ?v2_0) rfl (by kernel_rfl) (by kernel_rfl) (by kernel_rfl) (fun _ _ _ h => h) ?y2_0 (by assumption) ?r2_0
        case y2_0 => first | (refine Or.inr ⟨by rfl, ?_⟩; with_reducible rfl) | (refine Or.inl ⟨by rfl, ?_⟩; intro w hSw; (try dsimp only at hSw); (try simp only [List.getElem_toArray, List.getElem_cons_succ, List.getElem_cons_zero]); go_simp; all_goals (with_reducible rfl))
        try simp only [Act.put, List.setIfInBounds_toArray, List.set_cons_zero, List.set_cons_succ, List.getElem_toArray, List.getElem_cons_succ, List.getElem_cons_zero]
        refine wpAnyH_take (i := 1) (v := ?v2_1) rfl (by kernel_rfl) (by kernel_rfl) (by kernel_rfl) (fun _ _ _ h => h) ?y2_1 (by assumption) ?r2_1
        case y2_1 => first | (refine Or.inr ⟨by rfl, ?_⟩; with_reducible rfl) | (refine Or.inl ⟨by rfl, ?_⟩; intro w hSw; (try dsimp only at hSw); (try simp only [List.getElem_toArray, List.getElem_cons_succ, List.getElem_cons_zero]); go_simp; all_goals (with_reducible rfl))
        try simp only [Act.put, List.setIfInBounds_toArray, List.set_cons_zero, List.set_cons_succ, List.getElem_toArray, List.getElem_cons_succ, List.getElem_cons_zero]
        refine wpAnyH_take (i := 2) (v := ?v2_2) rfl (by kernel_rfl) (by kernel_rfl) (by kernel_rfl) (fun _ _ _ h => h) ?y2_2 (by assumption) ?r2_2
        case y2_2 => first | (refine Or.inr ⟨by rfl, ?_⟩; with_reducible rfl) | (refine Or.inl ⟨by rfl, ?_⟩; intro w hSw; (try dsimp only at hSw); (try simp only [List.getElem_toArray, List.getElem_cons_succ, List.getElem_cons_zero]); go_simp; all_goals (with_reducible rfl))
        try simp only [Act.put, List.setIfInBounds_toArray, List.set_cons_zero, List.set_cons_succ, List.getElem_toArray, List.getElem_cons_succ, List.getElem_cons_zero]
        refine wpAnyH_take (i := 3) (v := ?v2_3) rfl (by kernel_rfl) (by kernel_rfl) (by kernel_rfl) (fun _ _ _ h => h) ?y2_3 (by assumption) ?r2_3
        case y2_3 => first | (refine Or.inr ⟨by rfl, ?_⟩; with_reducible rfl) | (refine Or.inl ⟨by rfl, ?_⟩; intro w hSw; (try dsimp only at hSw); (try simp only [List.getElem_toArray, List.getElem_cons_succ, List.getElem_cons_zero]); go_simp; all_goals (with_reducible rfl))
        try simp only [Act.put, List.setIfInBounds_toArray, List.set_cons_zero, List.set_cons_succ, List.getElem_toArray, List.getElem_cons_succ, List.getElem_cons_zero]
        refine wpAnyH_take (i := 4) (v := ?v2_4) rfl (by kernel_rfl) (by kernel_rfl) (by kernel_rfl) (fun _ _ _ h => h) ?y2_4 (by assumption) ?r2_4
        case y2_4 => first | (refine Or.inr ⟨by rfl, ?_⟩; with_reducible rfl) | (refine Or.inl ⟨by rfl, ?_⟩; intro w hSw; (try dsimp only at hSw); (try simp only [List.getElem_toArray, List.getElem_cons_succ, List.getElem_cons_zero]); go_simp; all_goals (with_reducible rfl))
        try simp only [Act.put, List.setIfInBounds_toArray, List.set_cons_zero, List.set_cons_succ, List.getElem_toArray, List.getElem_cons_succ, List.getElem_cons_zero]
        refine wpAnyH_ready (rs := [5]) (by kernel_rfl) (by simp) ?_
        refine AllReadyH.cons rfl (fun K hK => ?_) AllReadyH.nil
        try simp only [List.getElem_toArray, List.getElem_cons_succ, List.getElem_cons_zero]
        go_simp
        (go_at_call 13; (with_reducible refine (HSA.out _ (Below.refl V8.heap.size V8).drew).mono ?_); rintro e u1 ⟨rfl, hb⟩; have hu1 := below_step (w := V8) (Below.refl V8.heap.size V8).drew hb; have hS1 := HCC.out u1 hu1; clear hb)
        refine hK.out _ _ (by exact hS1) (fun hHeld => ?_)
        clear hK K
        try simp only [Act.put, List.setIfInBounds_toArray, List.set_cons_zero, List.set_cons_succ, List.getElem_toArray, List.getElem_cons_succ, List.getElem_cons_zero]
        refine wpAnyH_take (i := 6) (v := ?v2_6) rfl (by kernel_rfl) (by kernel_rfl) (by kernel_rfl) (fun _ _ _ h => h) ?y2_6 (by assumption) ?r2_6
        case y2_6 => first | (refine Or.inr ⟨by rfl, ?_⟩; with_reducible rfl) | (refine Or.inl ⟨by rfl, ?_⟩; intro w hSw; (try dsimp only at hSw); (try simp only [List.getElem_toArray, List.getElem_cons_succ, List.getElem_cons_zero]); go_simp; all_goals (with_reducible rfl))
        try simp only [Act.put, List.setIfInBounds_toArray, List.set_cons_zero, List.set_cons_succ, List.getElem_toArray, List.getElem_cons_succ, List.getElem_cons_zero]
        refine wpAnyH_take (i := 7) (v := ?v2_7) rfl (by kernel_rfl) (by kernel_rfl) (by kernel_rfl) (fun _ _ _ h => h) ?y2_7 (by assumption) ?r2_7
        case y2_7 => first | (refine Or.inr ⟨by rfl, ?_⟩; with_reducible rfl) | (refine Or.inl ⟨by rfl, ?_⟩; intro w hSw; (try dsimp only at hSw); (try simp only [List.getElem_toArray, List.getElem_cons_succ, List.getElem_cons_zero]); go_simp; all_goals (with_reducible rfl))
        try simp only [Act.put, List.setIfInBounds_toArray, List.set_cons_zero, List.set_cons_succ, List.getElem_toArray, List.getElem_cons_succ, List.getElem_cons_zero]
        refine wpAnyH_take (i := 8) (v := ?v2_8) rfl (by kernel_rfl) (by kernel_rfl) (by kernel_rfl) (fun _ _ _ h => h) ?y2_8 (by assumption) ?r2_8
        case y2_8 => first | (refine Or.inr ⟨by rfl, ?_⟩; with_reducible rfl) | (refine Or.inl ⟨by rfl, ?_⟩; intro w hSw; (try dsimp only at hSw); (try simp only [List.getElem_toArray, List.getElem_cons_succ, List.getElem_cons_zero]); go_simp; all_goals (with_reducible rfl))
        try simp only [Act.put, List.setIfInBounds_toArray, List.set_cons_zero, List.set_cons_succ, List.getElem_toArray, List.getElem_cons_succ, List.getElem_cons_zero]
        refine wpAnyH_take (i := 10) (v := ?v2_10) rfl (by kernel_rfl) (by kernel_rfl) (by kernel_rfl) (fun _ _ _ h => h) ?y2_10 (by assumption) ?r2_10
        case y2_10 => first | (refine Or.inr ⟨by rfl, ?_⟩; with_reducible rfl) | (refine Or.inl ⟨by rfl, ?_⟩; intro w hSw; (try dsimp only at hSw); (try simp only [List.getElem_toArray, List.getElem_cons_succ, List.getElem_cons_zero]); go_simp; all_goals (with_reducible rfl))
        try simp only [Act.put, List.setIfInBounds_toArray, List.set_cons_zero, List.set_cons_succ, List.getElem_toArray, List.getElem_cons_succ, List.getElem_cons_zero]
        refine wpAnyH_take (i := 12) (v := ?v2_12) rfl (by kernel_rfl) (by kernel_rfl) (by kernel_rfl) (fun _ _ _ h => h) ?y2_12 (by assumption) ?r2_12
        case y2_12 => first | (refine Or.inr ⟨by rfl, ?_⟩; with_reducible rfl) | (refine Or.inl ⟨by rfl, ?_⟩; intro w hSw; (try dsimp only at hSw); (try simp only [List.getElem_toArray, List.getElem_cons_succ, List.getElem_cons_zero]); go_simp; all_goals (with_reducible rfl))
        try simp only [Act.put, List.setIfInBounds_toArray, List.set_cons_zero, List.set_cons_succ, List.getElem_toArray, List.getElem_cons_succ, List.getElem_cons_zero]
        refine wpAnyH_ready (rs := [9]) (by kernel_rfl) (by simp) ?_
        refine AllReadyH.cons rfl (fun K hK => ?_) AllReadyH.nil
        try simp only [List.getElem_toArray, List.getElem_cons_succ, List.getElem_cons_zero]
        go_simp
        (go_at_call 8; (with_reducible refine (HT4.out _ hu1).mono ?_); rintro e u2 ⟨rfl, hb⟩; have hu2 := below_step (w := V8) hu1 hb; have hS2 := HCC.out u2 hu2; clear hb)
        refine hK.out _ _ (by exact hS2) (fun hHeld => ?_)
        clear hK K
        try simp only [Act.put, List.setIfInBounds_toArray, List.set_cons_zero, List.set_cons_succ, List.getElem_toArray, List.getElem_cons_succ, List.getElem_cons_zero]
        refine wpAnyH_take (i := 11) (v := ?v2_11) rfl (by kernel_rfl) (by kernel_rfl) (by kernel_rfl) (fun _ _ _ h => h) ?y2_11 (by assumption) ?r2_11
        case y2_11 => first | (refine Or.inr ⟨by rfl, ?_⟩; with_reducible rfl) | (refine Or.inl ⟨by rfl, ?_⟩; intro w hSw; (try dsimp only at hSw); (try simp only [List.getElem_toArray, List.getElem_cons_succ, List.getElem_cons_zero]); go_simp; all_goals (with_reducible rfl))
        try simp only [Act.put, List.setIfInBounds_toArray, List.set_cons_zero, List.set_cons_succ, List.getElem_toArray, List.getElem_cons_succ, List.getElem_cons_zero]
        refine wpAnyH_ready (rs := [13]) (by kernel_rfl) (by simp) ?_
        refine AllReadyH.cons rfl (fun K hK => ?_) AllReadyH.nil
        try simp only [List.getElem_toArray, List.getElem_cons_succ, List.getElem_cons_zero]
        go_simp
        (go_at_call 11; (with_reducible refine (HM4.out _ hu2).mono ?_); rintro e u3 ⟨rfl, hb⟩; have hu3 := below_step (w := V8) hu2 hb; have hS3 := HCC.out u3 hu3; clear hb)
        refine hK.out _ _ (by exact hS3) (fun hHeld => ?_)
        clear hK K
        try simp only [Act.put, List.setIfInBounds_toArray, List.set_cons_zero, List.set_cons_succ, List.getElem_toArray, List.getElem_cons_succ, List.getElem_cons_zero]
        refine wpAnyH_take (i := 14) (v := ?v2_14) rfl (by kernel_rfl) (by kernel_rfl) (by kernel_rfl) (fun _ _ _ h => h) ?y2_14 (by assumption) ?r2_14
        case y2_14 => first | (refine Or.inr ⟨by rfl, ?_⟩; with_reducible rfl) | (refine Or.inl ⟨by rfl, ?_⟩; intro w hSw; (try dsimp only at hSw); (try simp only [List.getElem_toArray, List.getElem_cons_succ, List.getElem_cons_zero]); go_simp; all_goals (with_reducible rfl))
        try simp only [Act.put, List.setIfInBounds_toArray, List.set_cons_zero, List.set_cons_succ, List.getElem_toArray, List.getElem_cons_succ, List.getElem_cons_zero]
        refine wpAnyH_take (i := 15) (v := ?v2_15) rfl (by kernel_rfl) (by kernel_rfl) (by kernel_rfl) (fun _ _ _ h => h) ?y2_15 (by assumption) ?r2_15
        case y2_15 => first | (refine Or.inr ⟨by rfl, ?_⟩; with_reducible rfl) | (refine Or.inl ⟨by rfl, ?_⟩; intro w hSw; (try dsimp only at hSw); (try simp only [List.getElem_toArray, List.getElem_cons_succ, List.getElem_cons_zero]); go_simp; all_goals (with_reducible rfl))
        try simp only [Act.put, List.setIfInBounds_toArray, List.set_cons_zero, List.set_cons_succ, List.getElem_toArray, List.getElem_cons_succ, List.getElem_cons_zero]
        refine wpAnyH_take (i := 16) (v := ?v2_16) rfl (by kernel_rfl) (by kernel_rfl) (by kernel_rfl) (fun _ _ _ h => h) ?y2_16 (by assumption) ?r2_16
        case y2_16 => first | (refine Or.inr ⟨by rfl, ?_⟩; with_reducible rfl) | (refine Or.inl ⟨by rfl, ?_⟩; intro w hSw; (try dsimp only at hSw); (try simp only [List.getElem_toArray, List.getElem_cons_succ, List.getElem_cons_zero]); go_simp; all_goals (with_reducible rfl))
        try simp only [Act.put, List.setIfInBounds_toArray, List.set_cons_zero, List.set_cons_succ, List.getElem_toArray, List.getElem_cons_succ, List.getElem_cons_zero]
        refine wpAnyH_take (i := 17) (v := ?v2_17) rfl (by kernel_rfl) (by kernel_rfl) (by kernel_rfl) (fun _ _ _ h => h) ?y2_17 (by assumption) ?r2_17
        case y2_17 => first | (refine Or.inr ⟨by rfl, ?_⟩; with_reducible rfl) | (refine Or.inl ⟨by rfl, ?_⟩; intro w hSw; (try dsimp only at hSw); (try simp only [List.getElem_toArray, List.getElem_cons_succ, List.getElem_cons_zero]); go_simp; all_goals (with_reducible rfl))
        try simp only [Act.put, List.setIfInBounds_toArray, List.set_cons_zero, List.set_cons_succ, List.getElem_toArray, List.getElem_cons_succ, List.getElem_cons_zero]
        refine wpAnyH_take (i := 18) (v := ?v2_18) rfl (by kernel_rfl) (by kernel_rfl) (by kernel_rfl) (fun _ _ _ h => h) ?y2_18 (by assumption) ?r2_18
        case y2_18 => first | (refine Or.inr ⟨by rfl, ?_⟩; with_reducible rfl) | (refine Or.inl ⟨by rfl, ?_⟩; intro w hSw; (try dsimp only at hSw); (try simp only [List.getElem_toArray, List.getElem_cons_succ, List.getElem_cons_zero]); go_simp; all_goals (with_reducible rfl))
        try simp only [Act.put, List.setIfInBounds_toArray, List.set_cons_zero, List.set_cons_succ, List.getElem_toArray, List.getElem_cons_succ, List.getElem_cons_zero]
        refine wpAnyH_take (i := 19) (v := ?v2_19) rfl (by kernel_rfl) (by kernel_rfl) (by kernel_rfl) (fun _ _ _ h => h) ?y2_19 (by assumption) ?r2_19
        case y2_19 => first | (refine Or.inr ⟨by rfl, ?_⟩; with_reducible rfl) | (refine Or.inl ⟨by rfl, ?_⟩; intro w hSw; (try dsimp only at hSw); (try simp only [List.getElem_toArray, List.getElem_cons_succ, List.getElem_cons_zero]); go_simp; all_goals (with_reducible rfl))
        try simp only [Act.put, List.setIfInBounds_toArray, List.set_cons_zero, List.set_cons_succ, List.getElem_toArray, List.getElem_cons_succ, List.getElem_cons_zero]
        refine wpAnyH_take (i := 20) (v := ?v2_20) rfl (by kernel_rfl) (by kernel_rfl) (by kernel_rfl) (fun _ _ _ h => h) ?y2_20 (by assumption) ?r2_20
        case y2_20 => first | (refine Or.inr ⟨by rfl, ?_⟩; with_reducible rfl) | (refine Or.inl ⟨by rfl, ?_⟩; intro w hSw; (try dsimp only at hSw); (try simp only [List.getElem_toArray, List.getElem_cons_succ, List.getElem_cons_zero]); go_simp; all_goals (with_reducible rfl))
        try simp only [Act.put, List.setIfInBounds_toArray, List.set_cons_zero, List.set_cons_succ, List.getElem_toArray, List.getElem_cons_succ, List.getElem_cons_zero]
        refine wpAnyH_take (i := 21) (v := ?v2_21) rfl (by kernel_rfl) (by kernel_rfl) (by kernel_rfl) (fun _ _ _ h => h) ?y2_21 (by assumption) ?r2_21
        case y2_21 => first | (refine Or.inr ⟨by rfl, ?_⟩; with_reducible rfl) | (refine Or.inl ⟨by rfl, ?_⟩; intro w hSw; (try dsimp only at hSw); (try simp only [List.getElem_toArray, List.getElem_cons_succ, List.getElem_cons_zero]); go_simp; all_goals (with_reducible rfl))
        try simp only [Act.put, List.setIfInBounds_toArray, List.set_cons_zero, List.set_cons_succ, List.getElem_toArray, List.getElem_cons_succ, List.getElem_cons_zero]
        refine wpAnyH_done (by kernel_rfl) ?_ _
        go_wp2
        go_ret
        exact ⟨by first | rfl | simp, HBX.out _ hu3⟩



/-! The row's step. -/
theorem own : ownKnob Tryd.prog.godebug = none := by kernel_rfl
theorem laidOut : laidOutB Tryd.prog = true := by kernel_rfl

set_option maxRecDepth 100000 in
theorem lifted (os : Os) (started : os.Started) (H : Type) (enc : TypeId × Value → H) :
    ReturnsInHanded {} Tryd.checked os 3 .any (fun w args => (Rows.traceTellsSpec.pre enc Tryd.prog Tryd.f3 [] false w args ∧ laidMetH Tryd.prog laids w) ∧ sizedMet enc Tryd.prog Tryd.f3 (OpenSpec.ofChange Rows.traceTellsSpec) false w args) (Rows.traceTellsSpec.post enc Tryd.prog Tryd.f3 false true false false) := by
  refine returnsInHanded_of_change_and (C := Tryd.checked) (X := fun w _ => laidMetH Tryd.prog laids w) (fun _ _ _ hh h => h.of_heap hh) own started (by kernel_rfl) Tryd.func3
    (ChangeSpec.witness_at (enc := enc) (C := Tryd.checked) (os := os) (X := fun w _ => laidMetH Tryd.prog laids w) false (laidWorld os) #[.agg #[.int .i64 0, .slice none 0 0, .slice none 0 0, .slice none 0 0, .slice none 0 0], .agg #[.int .i64 0, .slice none 0 0, .slice none 0 0, .slice none 0 0, .slice none 0 0]] 8 rfl (by kernel_rfl) (by kernel_rfl) (by kernel_rfl) (by kernel_rfl) (by kernel_rfl) (laidWorld_met os _)) ?_
  intro W base args ds gs before hval0 hW hcnd _ hL _
  have hval : ∀ (j : Nat) t v, Tryd.f3.params[j]? = some t → args[j]? = some v → Value.okWide Tryd.prog W .any base t v := hval0
  have hW' := hW
  obtain ⟨p, q, hA0, hV, rfl, hfz, hnd⟩ := hW
  have hA : DataW.TrodAll enc Tryd.prog W 0 (fun _ => true) true Tryd.f3.params.toList args.toList ds p := hA0
  rw [Tryd.params3] at hA hval
  obtain ⟨v0, vs0, d0, ds0, p0, q0, hargs, rfl, rfl, h0, r0⟩ := trodAll_cons hA
  obtain ⟨v1, vs1, d1, ds1, p1, q1, rfl, rfl, rfl, h1, r1⟩ := trodAll_cons r0
  obtain ⟨rfl, rfl, rfl⟩ := trodAll_nil r1
  obtain rfl : args = #[v0, v1] := by cases args; simp_all
  obtain ⟨rfl, rfl⟩ := trodVars_none hV
  have k0 := h0
  have lt0 : ∀ x ∈ p0, x.block < W.heap.size := by obtain ⟨m, hm⟩ := k0; exact DataW.trod_lt m _ _ _ hm
  obtain ⟨t0, e01, n01, c01, e02, n02, c02, e03, n03, c03, e04, n04, c04, rfl, w0⟩ := open_tock Tryd.underlying27 (by kernel_rfl) rfl (by kernel_rfl) Tryd.underlying24 rfl (by kernel_rfl) Tryd.underlying25 ⟨rfl, by kernel_rfl, Tryd.underlying3⟩ ⟨rfl, by kernel_rfl, Tryd.underlying22⟩ ⟨rfl, by kernel_rfl, Tryd.underlying22⟩ ⟨rfl, by kernel_rfl, Tryd.underlying22⟩ Tryd.underlying3 (by kernel_rfl) Tryd.underlying36 (by kernel_rfl) (by kernel_rfl) (by kernel_rfl) (hval 0 27 v0 rfl rfl) h0
  have k1 := h1
  have lt1 : ∀ x ∈ p1, x.block < W.heap.size := by obtain ⟨m, hm⟩ := k1; exact DataW.trod_lt m _ _ _ hm
  obtain ⟨t1, e11, n11, c11, e12, n12, c12, e13, n13, c13, e14, n14, c14, rfl, w1⟩ := open_tock Tryd.underlying27 (by kernel_rfl) rfl (by kernel_rfl) Tryd.underlying24 rfl (by kernel_rfl) Tryd.underlying25 ⟨rfl, by kernel_rfl, Tryd.underlying3⟩ ⟨rfl, by kernel_rfl, Tryd.underlying22⟩ ⟨rfl, by kernel_rfl, Tryd.underlying22⟩ ⟨rfl, by kernel_rfl, Tryd.underlying22⟩ Tryd.underlying3 (by kernel_rfl) Tryd.underlying36 (by kernel_rfl) (by kernel_rfl) (by kernel_rfl) (hval 1 27 v1 rfl rfl) h1
  clear hA0 hval0
  refine (walk t0 e01 n01 c01 e02 n02 c02 e03 n03 c03 e04 n04 c04 t1 e11 n11 c11 e12 n12 c12 e13 n13 c13 e14 n14 c14 W w0 w1 (tab_of_laids hL)).mono fun e W' ⟨he, bel⟩ => ?_
  subst he
  exact ⟨_, rfl, _, _, _, [], _, [], hW', trodAll_mk1 (shut_bool Tryd.underlying4 _), (trodAll_cons_mk (Below.trod laidOut (by kernel_rfl) (of_decide_eq_true (by kernel_rfl)) k0 bel lt0) (trodAll_cons_mk (Below.trod laidOut (by kernel_rfl) (of_decide_eq_true (by kernel_rfl)) k1 bel lt1) trodAll_mk0)), rfl, bel.frame _, fun h => by cases h⟩

theorem over : Rows.traceTellsRow.holds Tryd.pinned (OpenSpec.ofChange Rows.traceTellsSpec) :=
  OpenClaim.holds_of_wide 3 Tryd.f3 rfl rfl rfl rfl rfl rfl rfl ⟨rfl, rfl, rfl, rfl, rfl⟩ rfl rfl rfl rfl rfl (by kernel_rfl) Tryd.func3 (by kernel_rfl)
    (of_decide_eq_true (by kernel_rfl)) (by unfold Func.isWrapper; first | (rw [if_pos (by decide +kernel)]; kernel_rfl) | (rw [if_neg (by decide +kernel)]; exact ⟨rfl, rfl⟩))
    (fun os started H enc _ => lifted os started H enc)

/-- The statement. -/
theorem proved : Rows.TraceTellsCardSaid :=
  Claim7.holds_tied_plain_at .later [] [.data, .data, .data] true (true, "e7feedf59ff181a104340043f70b59ee275e4fff4a0462667d31ca2c37e59299") true
    over (fun _ h => by cases h) (by kernel_rfl) (fun _ h => by cases h) traceTells_row_tie rfl ⟨rfl, rfl⟩ (by kernel_rfl) rfl
    (fun f fn hf hfn => by
      obtain rfl : f = 3 := Option.some.inj ((show Tryd.prog.funcNamed "linchpin/linchpinlaw25.TraceTells" = some 3 by kernel_rfl).symm.trans hf) |>.symm
      obtain rfl : fn = Tryd.f3 := (Option.some.inj (Tryd.func3.symm.trans hfn)).symm
      exact ⟨by kernel_rfl, fun j t ht => by
        rw [Tryd.params3] at ht
        rcases j with _ | j
        · obtain rfl : 27 = t := by simpa using ht
          exact (show Tryd.prog.wantsStandIn 27 = false by kernel_rfl)
        rcases j with _ | j
        · obtain rfl : 27 = t := by simpa using ht
          exact (show Tryd.prog.wantsStandIn 27 = false by kernel_rfl)
        simp at ht⟩)
    (by kernel_rfl)
#print axioms proved

end Go.Proofs.YtimeodjfihpgeaaDoor.traceTells
