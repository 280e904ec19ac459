/-
  The law of parts: a record without its outcomes, or with no more than who ran, is the beginning of its text; outcomes are told one behind the other.
-/
import Derived.Test.YtimeodjfihpgeaaDoorTrS
import Derived.Test.YtimeodjfihpgeaaDoorTrJ
import Derived.Test.YtimeodjfihpgeaaDoorTrH
import Derived.Test.YtimeodjfihpgeaaDoorStRx
import Derived.Test.YtimeodjfihpgeaaDoorTie
import Derived.Test.YtimeodjfihpgeaaDoorCards
import Derived.SevenTiedAt
import Derived.ChangeMaps5
import Derived.Deep.RegionLaw
namespace Go.Proofs.YtimeodjfihpgeaaDoor.traceParts
open Go Go.ChangeShapes Go.WideShapes Go.ChangeAt Go.RowKit Go.Proofs.YtimeodjfihpgeaaDoor

theorem smallB_iff {n1 n2 n3 n4 : Nat} : smallB n1 n2 n3 n4 = true ↔ n1 ≤ 40 ∧ n2 ≤ 40 ∧ n3 ≤ 40 ∧ n4 ≤ 40 := by unfold smallB; simp
/-- The record with its first outcomes alone. -/
def upto (t : Tk) (i : Nat) : Tk := ⟨t.who, t.dn, t.ct, t.ms, t.fs.take i⟩
def bareW (t : Tk) : Tk := ⟨t.who, [], [], [], []⟩
theorem upto_may {t : Tk} (h : mayT t = true) (i : Nat) : mayT (upto t i) = true := by
  obtain ⟨m0, m1, m2, m3, m4⟩ := may_parts h
  unfold mayT upto
  simp only [m0, m1, m2, m3, Bool.true_and, List.all_eq_true]
  exact fun f hf => m4 f (List.mem_of_mem_take hf)
theorem bareW_may {t : Tk} (h : mayT t = true) : mayT (bareW t) = true := by
  unfold mayT bareW
  simp [(may_parts h).1, risingF]
/-- The text without the outcomes. -/
def headT (t : Tk) : Bs := whoT t.who ++ (marksB [43] t.dn ++ marksB [47] t.ct ++ marksB [33] t.ms)
theorem text_upto {t : Tk} (h : mayT t = true) (i : Nat) : textT (upto t i) = headT t ++ fatesT (t.fs.take i) := by unfold textT; rw [if_pos (upto_may h i)]; rfl
theorem text_bareW {t : Tk} (h : mayT t = true) : textT (bareW t) = whoT t.who := by
  unfold textT
  rw [if_pos (bareW_may h)]
  unfold textU bareW marksB fatesT
  simp
theorem text_all {t : Tk} (h : mayT t = true) : textT t = headT t ++ fatesT t.fs := by unfold textT; rw [if_pos h]; rfl
theorem pre_extract (A R : Bs) : (⟨(A ++ R).toArray⟩ : ByteArray).extract 0 A.length = ⟨A.toArray⟩ := by
  rw [Lib.extract_eq]
  simp

theorem fatesT_app (a b : List (Int × Int × Int)) : fatesT (a ++ b) = fatesT a ++ fatesT b := by unfold fatesT; rw [List.map_append, List.flatten_append]
theorem lt_new_size (w : World) (o : Obj) : ((w.alloc o).drew).heap.size = w.heap.size + 1 := by show (w.alloc o).heap.size = _; simp
set_option maxHeartbeats 16000000 in
set_option maxRecDepth 100000 in
theorem walk (t : Tk) (a1 : Option Addr) (n1 c1 : Nat) (a2 : Option Addr) (n2 c2 : Nat) (a3 : Option Addr) (n3 c3 : Nat) (a4 : Option Addr) (n4 c4 : Nat) (W : World)
    (q0 : ArgTk W t a1 n1 a2 n2 a3 n3 a4 n4) (ht : Tab W) : Calls Tryd.prog 4 #[.agg #[.int .i64 t.who, .slice a1 n1 c1, .slice a2 n2 c2, .slice a3 n3 c3, .slice a4 n4 c4]] W fun e w' => e = .returned (.bool true) ∧ Below W.heap.size W w' := by
  have HQ0 := Box.mk q0
  have HT := Box.mk ht
  have hbl : Below W.heap.size W (W.alloc (.cells #[.int .i64 t.who, .slice a1 n1 c1, .slice a2 n2 c2, .slice a3 n3 c3, .slice a4 n4 c4] 27)) := (Below.refl _ W).alloc (Nat.le_refl _) _
  have HB := Box.mk hbl
  have HX1 : Box ((W.alloc (.cells #[.int .i64 t.who, .slice a1 n1 c1, .slice a2 n2 c2, .slice a3 n3 c3, .slice a4 n4 c4] 27)).heap[W.heap.size]? = some (.cells #[.int .i64 t.who, .slice a1 n1 c1, .slice a2 n2 c2, .slice a3 n3 c3, .slice a4 n4 c4] 27 (0, 0))) := ⟨blk_new _ _⟩
  clear q0 ht
  go_enter Tryd.func4, Tryd.ntmps4
  go_upto_region 1 with fail
  generalize hV : W.alloc (.cells #[.int .i64 t.who, .slice a1 n1 c1, .slice a2 n2 c2, .slice a3 n3 c3, .slice a4 n4 c4] 27) = V at HB HX1 hbl ⊢
  have HVS : Box (V.heap.size = W.heap.size + 1) := ⟨by rw [← hV]; simp⟩
  clear hV hbl
  have HBW : Box (∀ w', Below V.heap.size V w' → Below W.heap.size W w') := ⟨fun w' hb => HB.out.trans (hb.mono (by have := HVS.out; omega))⟩
  have hVl : W.heap.size < V.heap.size := by have := HVS.out; omega
  have HC : Box (∀ w', Below V.heap.size V w' → w'.cell? ⟨W.heap.size, 0, none⟩ = some (.int .i64 t.who) ∧ w'.cell? ⟨W.heap.size, 1, none⟩ = some (.slice a1 n1 c1) ∧ w'.cell? ⟨W.heap.size, 2, none⟩ = some (.slice a2 n2 c2) ∧ w'.cell? ⟨W.heap.size, 3, none⟩ = some (.slice a3 n3 c3) ∧ w'.cell? ⟨W.heap.size, 4, none⟩ = some (.slice a4 n4 c4)) := ⟨fun w' hb => by
    have h5 := (hb.block _ (lt_blk HX1.out)).trans HX1.out
    exact ⟨(cell_blk h5 0).trans rfl, (cell_blk h5 1).trans rfl, (cell_blk h5 2).trans rfl, (cell_blk h5 3).trans rfl, (cell_blk h5 4).trans rfl⟩⟩
  have HA : Box (∀ w', Below V.heap.size V w' → Calls Tryd.prog 6 #[] w' fun e w'' => e = .returned (.bool true) ∧ Below w'.heap.size w' w'') := ⟨fun w' hb => awake25_any w' (HT.out.on (HBW.out _ hb))⟩
  have HS1 : Box (∀ w', Calls Tryd.prog 7 #[.agg #[.int .i64 t.who, .slice a1 n1 c1, .slice a2 n2 c2, .slice a3 n3 c3, .slice a4 n4 c4]] w' fun e w'' => e = .returned (.bool (smallB n1 n2 n3 n4)) ∧ Below w'.heap.size w' w'') := ⟨fun w' => small_any t.who a1 n1 c1 a2 n2 c2 a3 n3 c3 a4 n4 c4 w'⟩
  have HP1 : Box (smallB n1 n2 n3 n4 = true → n1 ≤ 40 ∧ n2 ≤ 40 ∧ n3 ≤ 40 ∧ n4 ≤ 40) := ⟨smallB_iff.1⟩
  generalize smallB n1 n2 n3 n4 = p1 at HS1 HP1
  clear HX1 HB HVS
  go_upto_region 3 with (go_at_call 6; (with_reducible refine (HA.out _ (Below.refl _ _)).mono ?_); rintro e w1 ⟨rfl, hb⟩; have HB1 := Box.mk hb; obtain ⟨e0, e1, e2, e3, e4⟩ := HC.out w1 hb; clear hb)
  clear HA
  cases p1 with
  | false =>
    go_wp2_with (go_at_call 7; (with_reducible refine (HS1.out _).mono ?_); rintro e w2 ⟨rfl, hb⟩; have HB2 := Box.mk (below_step HB1.out hb); obtain ⟨f0, f1, f2, f3, f4⟩ := HC.out w2 HB2.out; clear hb)
    go_ret
    exact ⟨rfl, HBW.out _ HB2.out⟩
  | true =>
    obtain ⟨j1, j2, j3, j4⟩ := HP1.out rfl
    have HK1 : Box (∀ w', Below V.heap.size V w' → TkAt w' t a1 n1 a2 n2 a3 n3 a4 n4) := ⟨fun w' hb => (HQ0.out.at j1 j2 j3 j4).later (HBW.out _ hb)⟩
    have HTB : Box (∀ w', Below V.heap.size V w' → Tab w') := ⟨fun w' hb => HT.out.on (HBW.out _ hb)⟩
    obtain ⟨m, HMM⟩ : ∃ m, Box (m = mayT t) := ⟨_, ⟨rfl⟩⟩
    have HM1 : Box (∀ w', Below V.heap.size V w' → Calls Tryd.prog 11 #[.agg #[.int .i64 t.who, .slice a1 n1 c1, .slice a2 n2 c2, .slice a3 n3 c3, .slice a4 n4 c4]] w' fun e w'' => e = .returned (.bool m) ∧ Below w'.heap.size w' w'') := ⟨fun w' hb => by rw [HMM.out]; exact trmay_any t a1 n1 c1 a2 n2 c2 a3 n3 c3 a4 n4 c4 w' (HK1.out w' hb)⟩
    cases m with
    | false =>
      go_wp2_with (first
        | (go_at_call 7; (with_reducible refine (HS1.out _).mono ?_); rintro e w2 ⟨rfl, hb⟩; have HB2 := Box.mk (below_step HB1.out hb); obtain ⟨f0, f1, f2, f3, f4⟩ := HC.out w2 HB2.out; clear hb)
        | (go_at_call 11; (with_reducible refine (HM1.out _ HB2.out).mono ?_); rintro e w3 ⟨rfl, hb⟩; have HB3 := Box.mk (below_step HB2.out hb); obtain ⟨g0, g1, g2, g3, g4⟩ := HC.out w3 HB3.out; clear hb))
      go_ret
      exact ⟨rfl, HBW.out _ HB3.out⟩
    | true =>
      have hmt : mayT t = true := HMM.out.symm
      have HMT := Box.mk hmt
      obtain ⟨A, HA⟩ : ∃ A, Box (A = headT t) := ⟨_, ⟨rfl⟩⟩
      obtain ⟨F, HF⟩ : ∃ F, Box (F = fatesT t.fs) := ⟨_, ⟨rfl⟩⟩
      obtain ⟨B0, HB0⟩ : ∃ B0, Box (B0 = whoT t.who) := ⟨_, ⟨rfl⟩⟩
      have HTX : Box (textT t = A ++ F) := ⟨by rw [HA.out, HF.out]; exact text_all hmt⟩
      have HT1 : Box (∀ w', Below V.heap.size V w' → Calls Tryd.prog 8 #[.agg #[.int .i64 t.who, .slice a1 n1 c1, .slice a2 n2 c2, .slice a3 n3 c3, .slice a4 n4 c4]] w' fun e w'' => e = .returned (strv (A ++ F)) ∧ Below w'.heap.size w' w'') := ⟨fun w' hb => by rw [← HTX.out]; exact ttext_any t a1 n1 c1 a2 n2 c2 a3 n3 c3 a4 n4 c4 w' (HK1.out w' hb) (HTB.out w' hb) (by omega) (by omega) (by omega) (by omega)⟩
      have HT2 : Box (∀ w', Below V.heap.size V w' → Calls Tryd.prog 8 #[.agg #[.int .i64 t.who, .slice a1 n1 c1, .slice a2 n2 c2, .slice a3 n3 c3, .slice none 0 0]] w' fun e w'' => e = .returned (strv A) ∧ Below w'.heap.size w' w'') := ⟨fun w' hb => by
        have := ttext_any (upto t 0) a1 n1 c1 a2 n2 c2 a3 n3 c3 none 0 0 w' ⟨(HK1.out w' hb).dn, (HK1.out w' hb).ct, (HK1.out w' hb).ms, ⟨rfl, by decide, fun h => by omega⟩⟩ (HTB.out w' hb) (by omega) (by omega) (by omega) (by omega)
        rw [text_upto hmt, show headT t ++ fatesT (t.fs.take 0) = A from by rw [HA.out]; simp [fatesT]] at this
        exact this⟩
      have HT3 : Box (∀ w', Below V.heap.size V w' → Calls Tryd.prog 8 #[.agg #[.int .i64 t.who, .slice none 0 0, .slice none 0 0, .slice none 0 0, .slice none 0 0]] w' fun e w'' => e = .returned (strv B0) ∧ Below w'.heap.size w' w'') := ⟨fun w' hb => by
        have := ttext_any (bareW t) none 0 0 none 0 0 none 0 0 none 0 0 w' ⟨⟨rfl, by decide, fun h => by omega⟩, ⟨rfl, by decide, fun h => by omega⟩, ⟨rfl, by decide, fun h => by omega⟩, ⟨rfl, by decide, fun h => by omega⟩⟩ (HTB.out w' hb) (by omega) (by omega) (by omega) (by omega)
        rw [text_bareW hmt, ← HB0.out] at this
        exact this⟩
      go_upto_region 7 with (first
        | (go_at_call 7; (with_reducible refine (HS1.out _).mono ?_); rintro e w2 ⟨rfl, hb⟩; have HB2 := Box.mk (below_step HB1.out hb); obtain ⟨f0, f1, f2, f3, f4⟩ := HC.out w2 HB2.out; clear hb)
        | (go_at_call 11; (with_reducible refine (HM1.out _ HB2.out).mono ?_); rintro e w3 ⟨rfl, hb⟩; have HB3 := Box.mk (below_step HB2.out hb); obtain ⟨g0, g1, g2, g3, g4⟩ := HC.out w3 HB3.out; clear hb)
        | (go_at_call 8; (with_reducible refine (HT1.out _ HB3.out).mono ?_); rintro e w4 ⟨rfl, hb⟩; have HB4 := Box.mk (below_step HB3.out hb); obtain ⟨h0, h1, h2, h3, h4⟩ := HC.out w4 HB4.out; clear hb))
      have hb5 : Below (World.heap w4).size w4 (World.alloc w4 (.cells #[.int .i64 t.who, .slice a1 n1 c1, .slice a2 n2 c2, .slice a3 n3 c3, .slice none 0 0] 27)) := (Below.refl _ _).alloc (Nat.le_refl _) _
      have HX5 : Box ((World.alloc w4 (.cells #[.int .i64 t.who, .slice a1 n1 c1, .slice a2 n2 c2, .slice a3 n3 c3, .slice none 0 0] 27)).heap[(World.heap w4).size]? = some (.cells #[.int .i64 t.who, .slice a1 n1 c1, .slice a2 n2 c2, .slice a3 n3 c3, .slice none 0 0] 27 (0, 0))) := ⟨blk_new _ _⟩
      have HB5 := Box.mk (below_step HB4.out hb5)
      have hBBl : V.heap.size ≤ (World.heap w4).size := HB4.out.size
      clear hb5
      generalize World.alloc w4 (.cells #[.int .i64 t.who, .slice a1 n1 c1, .slice a2 n2 c2, .slice a3 n3 c3, .slice none 0 0] 27) = V5 at HX5 HB5 ⊢
      generalize (World.heap w4).size = BB at HX5 hBBl ⊢
      obtain ⟨l0, l1, l2, l3, l4⟩ := HC.out V5 HB5.out
      have k0 : V5.cell? ⟨BB, 0, none⟩ = some (.int .i64 t.who) := (cell_blk HX5.out 0).trans rfl
      have k1 : V5.cell? ⟨BB, 1, none⟩ = some (.slice a1 n1 c1) := (cell_blk HX5.out 1).trans rfl
      have k2 : V5.cell? ⟨BB, 2, none⟩ = some (.slice a2 n2 c2) := (cell_blk HX5.out 2).trans rfl
      have k3 : V5.cell? ⟨BB, 3, none⟩ = some (.slice a3 n3 c3) := (cell_blk HX5.out 3).trans rfl
      have k4 : V5.cell? ⟨BB, 4, none⟩ = some (.slice none 0 0) := (cell_blk HX5.out 4).trans rfl
      clear e0 f0 g0 h0 e1 f1 g1 h1 e2 f2 g2 h2 e3 f3 g3 h3 e4 f4 g4 h4 HB1 HB2 HB3 HB4 HS1 HM1 HT1
      go_upto_region 9 with (first
        | (go_at_call 8; (with_reducible refine (HT2.out _ HB5.out).mono ?_); rintro e w6 ⟨rfl, hb⟩; have HB6 := Box.mk (below_step HB5.out hb); have HX6 := Box.mk ((hb.block BB (lt_blk HX5.out)).trans HX5.out); obtain ⟨e0, e1, e2, e3, e4⟩ := HC.out w6 HB6.out; clear hb)
        | (go_at_call 8; (with_reducible refine (HT3.out _ HB6.out).mono ?_); rintro e w7 ⟨rfl, hb⟩; have HB7 := Box.mk (below_step HB6.out hb); have HX7 := Box.mk ((hb.block BB (lt_blk HX6.out)).trans HX6.out); obtain ⟨f0, f1, f2, f3, f4⟩ := HC.out w7 HB7.out; clear hb))
      have HNE : Box (B0 ≠ []) := ⟨by
        rw [HB0.out]
        unfold whoT
        split
        · simp
        · split <;> simp⟩
      obtain ⟨R, HR⟩ : ∃ R, Box (A = B0 ++ R) := ⟨_, ⟨by rw [HA.out, HB0.out]; rfl⟩⟩
      obtain ⟨S, HS⟩ : ∃ S, Box (S = A ++ F) := ⟨_, ⟨rfl⟩⟩
      rw [← HS.out]
      have hl1 : ¬ (S.length : Int) < A.length := by rw [HS.out]; simp; omega
      have hl2 : ¬ (A.length : Int) < B0.length := by rw [HR.out]; simp; omega
      have hl3 : (A.length : Int) ≤ S.length := by omega
      have hl4 : (B0.length : Int) ≤ A.length := by omega
      have hl5 : (0 : Int) ≤ A.length := by omega
      have hl6 : (0 : Int) ≤ B0.length := by omega
      have hx1 : (⟨S.toArray⟩ : ByteArray).extract 0 A.length = ⟨A.toArray⟩ := by rw [HS.out]; exact pre_extract A F
      have hx2 : (⟨A.toArray⟩ : ByteArray).extract 0 B0.length = ⟨B0.toArray⟩ := by rw [HR.out]; exact pre_extract B0 R
      have hne : (B0 == []) = false := by
        have := HNE.out
        cases B0 with
        | nil => exact absurd rfl this
        | cons _ _ => rfl
      have hz1 : (⟨S.toArray⟩ : ByteArray).size = S.length := by rw [bts_size]
      have hz2 : (⟨A.toArray⟩ : ByteArray).size = A.length := by rw [bts_size]
      go_upto_block 0 with fail
      obtain ⟨i0, hi, hz0, hzz1, hzz2⟩ := info_parts Tryd.infoFate
      have hB7s := HB7.out.size
      go_wp2
      go_loopw [5, 7, 8] (fun s5 s7 _ wr => ∃ (i : Nat) (ao : Option Addr) (c : Nat), i ≤ n4 ∧ s7 = .int .i64 i ∧ s5 = .string ⟨(A ++ fatesT (t.fs.take i)).toArray⟩ ∧ Box (wr.heap[BB]? = some (.cells #[.int .i64 t.who, .slice a1 n1 c1, .slice a2 n2 c2, .slice a3 n3 c3, .slice ao i c] 27 (0, 0))) ∧ Box (wr.ownsRow w7.heap.size 36 3 (.slice ao i c) i (fc3 (t.fs.take i))) ∧ Box (Fr (fun k => k = BB) w7 wr)) (fun _ s7 _ _ => n4 - (intOf s7).toNat)
      case atStart => exact ⟨0, none, 0, by omega, rfl, by simp [fatesT], HX7, ⟨World.ownsRow_nil _ _ _ _⟩, ⟨Fr.refl _ _⟩⟩
      case round =>
        obtain ⟨i, ao, c, hin, rfl, rfl, HXB, HOW, HFR⟩ := hrel
        have HBR : Box (Below V.heap.size V wr) := ⟨HB7.out.trans (HFR.out.below hB7s (fun k _ e => by omega))⟩
        obtain ⟨y0, y1, y2, y3, y4⟩ := HC.out wr HBR.out
        by_cases hlt : i < n4
        · obtain ⟨b, off, p, kd, v, rfl, hbz, hdr, d0, d1, d2⟩ := (HK1.out wr HBR.out).fs.at hlt
          have hii : (i : Int) < n4 := by omega
          have hi0 : (0 : Int) ≤ i := by omega
          have z4 : wr.cell? ⟨BB, 4, none⟩ = some (.slice ao i c) := (cell_blk HXB.out 4).trans rfl
          go_upto_region 14 with fail
          have hbbs : BB < wr.heap.size := lt_blk HXB.out
          have hw7s := HFR.out.size
          have HOWD : Box (((wr.alloc (.cells #[.int .i64 p, .int .i64 kd, .int .i64 v] 36)).drew).ownsRow w7.heap.size 36 3 (.slice ao i c) i (fc3 (t.fs.take i))) := ⟨ownsRow_fr HOW.out (fun g hg => Below.heap_alloc _ _ _ (ownsRow_lt HOW.out hg).2)⟩
          have hblk : ((wr.alloc (.cells #[.int .i64 p, .int .i64 kd, .int .i64 v] 36)).drew).heap[wr.heap.size]? = some (.cells #[.int .i64 p, .int .i64 kd, .int .i64 v] 36 (0, 0)) := blk_new _ _
          have HBK := Box.mk hblk
          have HXBD : Box (((wr.alloc (.cells #[.int .i64 p, .int .i64 kd, .int .i64 v] 36)).drew).heap[BB]? = some (.cells #[.int .i64 t.who, .slice a1 n1 c1, .slice a2 n2 c2, .slice a3 n3 c3, .slice ao i c] 27 (0, 0))) := ⟨blk_alloc HXB.out⟩
          have HFRD : Box (Fr (fun k => k = BB) w7 ((wr.alloc (.cells #[.int .i64 p, .int .i64 kd, .int .i64 v] 36)).drew)) := ⟨(HFR.out.alloc _).drew⟩
          have HONE : Box (∀ u ∈ ([.int .i64 p, .int .i64 kd, .int .i64 v] : List Value), u.oneCell' = true) := ⟨by simp [Value.oneCell']⟩
          have hsd : wr.heap.size + 1 = ((wr.alloc (.cells #[.int .i64 p, .int .i64 kd, .int .i64 v] 36)).drew).heap.size := (lt_new_size _ _).symm
          have hB7' : BB < w7.heap.size := lt_blk HX7.out
          clear hblk
          go_region_law (refine step_append_lies _ rfl (.tmp 72) (.tmp 78) 25 rfl w7.heap.size 36 i0 (.agg #[.int .i64 0, .int .i64 0, .int .i64 0]) 3 24 Tryd.underlying25 hi hz0 hzz1 hzz2 rfl (by decide) (.slice ao i c) i (fc3 (t.fs.take i)) (by simp [Act.eval, Act.put]) HOWD.out ⟨wr.heap.size, 0, none⟩ 1 1 [.int .i64 p, .int .i64 kd, .int .i64 v] (by simp [Act.eval, Act.put]) rfl (World.news_of_block (cs := #[.int .i64 p, .int .i64 kd, .int .i64 v]) HBK.out) HONE.out (by omega) (by unfold maxLen; omega) (by omega) (by omega) _ rfl ?_; intro g3 c3' w3 ho3 hg3 _ _; have hne3 : ∀ k, (Value.slice ao i c).ownBlock = some k → w7.heap.size ≤ k := fun k hk => (ownsRow_lt HOW.out hk).1; have hbb3 := (hg3.block BB (by omega) (fun e => by have := hne3 BB e.symm; omega)).trans HXBD.out; have HF3 := Box.mk (HFRD.out.grown hg3 (fun k hk => .inr (hne3 k hk))); have HO3 := Box.mk ho3; have q0 : World.cell? w3 ⟨BB, 4, none⟩ = some (.slice ao i c) := (cell_blk hbb3 4).trans rfl; have q1 := free_blk hbb3 4; have HBB3 := Box.mk hbb3; clear ho3 hg3 hne3 hbb3)
          all_goals
            have hs9 : V.heap.size ≤ w3.heap.size := Nat.le_trans hB7s HF3.out.size
            have HXN : Box ((World.setCell w3 ⟨BB, 4, none⟩ (.slice (some ⟨g3, 0, none⟩) (i + 1) c3')).heap[BB]? = some (.cells #[.int .i64 t.who, .slice a1 n1 c1, .slice a2 n2 c2, .slice a3 n3 c3, .slice (some ⟨g3, 0, none⟩) (i + 1) c3'] 27 (0, 0))) := ⟨by rw [blk_set HBB3.out]; simp⟩
            have HF9 : Box (Fr (fun k => k = BB) w7 (World.setCell w3 ⟨BB, 4, none⟩ (.slice (some ⟨g3, 0, none⟩) (i + 1) c3'))) := ⟨HF3.out.setCell (p := ⟨BB, 4, none⟩) (.inl rfl) _⟩
            have HO9 := Box.mk (ownsRow_fr (w' := World.setCell w3 ⟨BB, 4, none⟩ (.slice (some ⟨g3, 0, none⟩) (i + 1) c3')) HO3.out (fun g hg => blk_set_ne _ (by have := (ownsRow_lt HO3.out hg).1; omega)))
            generalize World.setCell w3 ⟨BB, 4, none⟩ (.slice (some ⟨g3, 0, none⟩) (i + 1) c3') = V9 at HXN HF9 HO9 ⊢
            have HB9 : Box (Below V.heap.size V V9) := ⟨HB7.out.trans (HF9.out.below hB7s (fun k _ e => by omega))⟩
            have hit : i < t.fs.length := by have := (HK1.out wr HBR.out).fs.1; omega
            have hfe : t.fs[i] = (p, kd, v) := by
              have := List.drop_eq_getElem_cons hit
              rw [hdr] at this
              injection this with this _
              exact this.symm
            have htk : t.fs.take (i + 1) = t.fs.take i ++ [(p, kd, v)] := by rw [List.take_succ_eq_append_getElem hit, hfe]
            have HO10 : Box (V9.ownsRow w7.heap.size 36 3 (.slice (some ⟨g3, 0, none⟩) (i + 1) c3') (i + 1) (fc3 (t.fs.take (i + 1)))) := ⟨by rw [htk, fc3_snoc]; exact HO9.out⟩
            have HT9 := ttext_any (upto t (i + 1)) a1 n1 c1 a2 n2 c2 a3 n3 c3 (some ⟨g3, 0, none⟩) (i + 1) c3' V9 ⟨(HK1.out V9 HB9.out).dn, (HK1.out V9 HB9.out).ct, (HK1.out V9 HB9.out).ms, fates_of HO10.out (by omega)⟩ (HTB.out V9 HB9.out) (by omega) (by omega) (by omega) (by omega)
            rw [text_upto HMT.out, ← HA.out, show (upto t (i + 1)).who = t.who from rfl] at HT9
            obtain ⟨X, hX⟩ : ∃ X, fateT (p, kd, v) = 61 :: X := ⟨_, rfl⟩
            have hC : A ++ fatesT (t.fs.take (i + 1)) = (A ++ fatesT (t.fs.take i)) ++ 61 :: X := by rw [htk, fatesT_snoc, hX, List.append_assoc]
            have hS2 : S = (A ++ fatesT (t.fs.take (i + 1))) ++ fatesT (t.fs.drop (i + 1)) := by
              rw [HS.out, HF.out, List.append_assoc]
              congr 1
              have := fatesT_app (t.fs.take (i + 1)) (t.fs.drop (i + 1))
              rw [← this, List.take_append_drop]
            have HCC := Box.mk hC
            obtain ⟨C, hCe⟩ : ∃ C, C = A ++ fatesT (t.fs.take (i + 1)) := ⟨_, rfl⟩
            have HCE := Box.mk hCe
            rw [← hCe] at HT9 hC hS2
            generalize A ++ fatesT (t.fs.take i) = Ai at hC ⊢
            have hb1 : (⟨C.toArray⟩ : ByteArray).extract 0 Ai.length = ⟨Ai.toArray⟩ := by rw [hC]; exact pre_extract _ _
            have hb2 : (⟨S.toArray⟩ : ByteArray).extract 0 C.length = ⟨C.toArray⟩ := by rw [hS2]; exact pre_extract _ _
            have hAC : Ai.length < C.length := by rw [hC]; simp
            have hCS : C.length ≤ S.length := by rw [hS2]; simp
            have h61 : C[Ai.length]? = some 61 := by rw [hC]; simp
            obtain ⟨cb, hcb⟩ : ∃ cb : ByteArray, cb = ⟨C.toArray⟩ := ⟨_, rfl⟩
            have hcz : cb.size = C.length := by rw [hcb, bts_size]
            have hlt : Ai.length < cb.size := by rw [hcz]; exact hAC
            have h61b : ((cb[Ai.length]'hlt).toNat : Int) = 61 := by
              have e1 : cb[Ai.length]'hlt = 61 := by
                have e2 := bts_get (s := cb) hlt
                have e3 : cb.data.toList = C := by rw [hcb]
                have e4 : cb.data.toList[Ai.length]? = some 61 := by rw [e3]; exact h61
                rw [List.getElem?_eq_getElem (by rw [e3]; exact hAC)] at e4
                exact e2.symm.trans (Option.some.inj e4)
              rw [e1]; rfl
            have hne61 : (((cb[Ai.length]'hlt).toNat : Int) != 61) = false := by rw [h61b]; rfl
            rw [show strv C = .string cb from by rw [hcb]] at HT9
            have HT9 := Box.mk HT9
            rw [← hcb] at hb1 hb2
            have HCB := Box.mk hcb
            have hAS : (⟨Ai.toArray⟩ : ByteArray).size = Ai.length := by rw [bts_size]
            have hSS : (⟨S.toArray⟩ : ByteArray).size = S.length := by rw [bts_size]
            generalize (⟨Ai.toArray⟩ : ByteArray) = ab at hb1 hAS ⊢
            rw [← hcz] at hb2
            have hm1 : ¬ (cb.size : Int) ≤ ab.size := by omega
            have hm2 : ¬ (S.length : Int) < cb.size := by omega
            have hm3 : (ab.size : Int) ≤ cb.size := by omega
            have hm4 : (cb.size : Int) ≤ S.length := by omega
            have hm5 : (0 : Int) ≤ ab.size := by omega
            have hm6 : (0 : Int) ≤ cb.size := by omega
            have hm7 : ab.size < cb.size := by omega
            rw [← hAS] at hb1
            have hne62 : (((cb[ab.size]'hm7).toNat : Int) != 61) = false := by
              have : cb[ab.size]'hm7 = cb[Ai.length]'hlt := by congr 1
              rw [this]; exact hne61
            clear h61b hne61 h61 hlt hcb hcz hAC hCS hAS hSS
            have x0 : V9.cell? ⟨BB, 0, none⟩ = some (.int .i64 t.who) := (cell_blk HXN.out 0).trans rfl
            have x1 : V9.cell? ⟨BB, 1, none⟩ = some (.slice a1 n1 c1) := (cell_blk HXN.out 1).trans rfl
            have x2 : V9.cell? ⟨BB, 2, none⟩ = some (.slice a2 n2 c2) := (cell_blk HXN.out 2).trans rfl
            have x3 : V9.cell? ⟨BB, 3, none⟩ = some (.slice a3 n3 c3) := (cell_blk HXN.out 3).trans rfl
            have x4 : V9.cell? ⟨BB, 4, none⟩ = some (.slice (some ⟨g3, 0, none⟩) (i + 1) c3') := (cell_blk HXN.out 4).trans rfl
            clear hC hCe hS2 htk hfe
            go_upto_region 16 with (go_at_call 8; (with_reducible refine HT9.out.mono ?_); rintro e w9 ⟨rfl, hb⟩; have HB10 := Box.mk hb; clear hb)
            go_wp2
            go_roundw
            case rel => exact ⟨i + 1, some ⟨g3, 0, none⟩, c3', by omega, by go_num, by rw [HCB.out, HCE.out], ⟨(HB10.out.block BB (lt_blk HXN.out)).trans HXN.out⟩, ⟨ownsRow_fr HO10.out (fun g hg => HB10.out.block g (ownsRow_lt HO10.out hg).2)⟩, ⟨HF9.out.trans (Fr.of_below HB10.out)⟩⟩
            case measure => simp [intOf] <;> omega
        · obtain rfl : n4 = i := by omega
          have hii : ¬ (n4 : Int) < n4 := by omega
          have HFF : Box (A ++ fatesT (t.fs.take n4) = S) := ⟨by rw [HS.out, HF.out, List.take_of_length_le (by have := (HK1.out wr HBR.out).fs.1; omega)]⟩
          rw [HFF.out]
          have hss : (S == S) = true := by simp
          go_wp2
          go_ret
          exact ⟨by first | rfl | simp, HBW.out _ HBR.out⟩


/-! The row's step. -/
theorem own : ownKnob Tryd.prog.godebug = none := by kernel_rfl
theorem laidOut : laidOutB Tryd.prog = true := by kernel_rfl

set_option maxRecDepth 100000 in
theorem lifted (os : Os) (started : os.Started) (H : Type) (enc : TypeId × Value → H) :
    ReturnsInHanded {} Tryd.checked os 4 .any (fun w args => (Rows.tracePartsSpec.pre enc Tryd.prog Tryd.f4 [] false w args ∧ laidMetH Tryd.prog laids w) ∧ sizedMet enc Tryd.prog Tryd.f4 (OpenSpec.ofChange Rows.tracePartsSpec) false w args) (Rows.tracePartsSpec.post enc Tryd.prog Tryd.f4 false true false false) := by
  refine returnsInHanded_of_change_and (C := Tryd.checked) (X := fun w _ => laidMetH Tryd.prog laids w) (fun _ _ _ hh h => h.of_heap hh) own started (by kernel_rfl) Tryd.func4
    (ChangeSpec.witness_at (enc := enc) (C := Tryd.checked) (os := os) (X := fun w _ => laidMetH Tryd.prog laids w) false (laidWorld os) #[.agg #[.int .i64 0, .slice none 0 0, .slice none 0 0, .slice none 0 0, .slice none 0 0]] 8 rfl (by kernel_rfl) (by kernel_rfl) (by kernel_rfl) (by kernel_rfl) (by kernel_rfl) (laidWorld_met os _)) ?_
  intro W base args ds gs before hval0 hW hcnd _ hL _
  have hval : ∀ (j : Nat) t v, Tryd.f4.params[j]? = some t → args[j]? = some v → Value.okWide Tryd.prog W .any base t v := hval0
  have hW' := hW
  obtain ⟨p, q, hA0, hV, rfl, hfz, hnd⟩ := hW
  have hA : DataW.TrodAll enc Tryd.prog W 0 (fun _ => true) true Tryd.f4.params.toList args.toList ds p := hA0
  rw [Tryd.params4] at hA hval
  obtain ⟨v0, vs0, d0, ds0, p0, q0, hargs, rfl, rfl, h0, r0⟩ := trodAll_cons hA
  obtain ⟨rfl, rfl, rfl⟩ := trodAll_nil r0
  obtain rfl : args = #[v0] := by cases args; simp_all
  obtain ⟨rfl, rfl⟩ := trodVars_none hV
  have k0 := h0
  have lt0 : ∀ x ∈ p0, x.block < W.heap.size := by obtain ⟨m, hm⟩ := k0; exact DataW.trod_lt m _ _ _ hm
  obtain ⟨t0, e01, n01, c01, e02, n02, c02, e03, n03, c03, e04, n04, c04, rfl, w0⟩ := open_tock Tryd.underlying27 (by kernel_rfl) rfl (by kernel_rfl) Tryd.underlying24 rfl (by kernel_rfl) Tryd.underlying25 ⟨rfl, by kernel_rfl, Tryd.underlying3⟩ ⟨rfl, by kernel_rfl, Tryd.underlying22⟩ ⟨rfl, by kernel_rfl, Tryd.underlying22⟩ ⟨rfl, by kernel_rfl, Tryd.underlying22⟩ Tryd.underlying3 (by kernel_rfl) Tryd.underlying36 (by kernel_rfl) (by kernel_rfl) (by kernel_rfl) (hval 0 27 v0 rfl rfl) h0
  clear hA0 hval0
  refine (walk t0 e01 n01 c01 e02 n02 c02 e03 n03 c03 e04 n04 c04 W w0 (tab_of_laids hL)).mono fun e W' ⟨he, bel⟩ => ?_
  subst he
  exact ⟨_, rfl, _, _, _, [], _, [], hW', trodAll_mk1 (shut_bool Tryd.underlying4 _), (trodAll_cons_mk (Below.trod laidOut (by kernel_rfl) (of_decide_eq_true (by kernel_rfl)) k0 bel lt0) trodAll_mk0), rfl, bel.frame _, fun h => by cases h⟩

theorem over : Rows.tracePartsRow.holds Tryd.pinned (OpenSpec.ofChange Rows.tracePartsSpec) :=
  OpenClaim.holds_of_wide 4 Tryd.f4 rfl rfl rfl rfl rfl rfl rfl ⟨rfl, rfl, rfl, rfl, rfl⟩ rfl rfl rfl rfl rfl (by kernel_rfl) Tryd.func4 (by kernel_rfl)
    (of_decide_eq_true (by kernel_rfl)) (by unfold Func.isWrapper; first | (rw [if_pos (by decide +kernel)]; kernel_rfl) | (rw [if_neg (by decide +kernel)]; exact ⟨rfl, rfl⟩))
    (fun os started H enc _ => lifted os started H enc)

/-- The statement. -/
theorem proved : Rows.TracePartsCardSaid :=
  Claim7.holds_tied_plain_at .later [] [.data, .data, .data] true (true, "e7feedf59ff181a104340043f70b59ee275e4fff4a0462667d31ca2c37e59299") true
    over (fun _ h => by cases h) (by kernel_rfl) (fun _ h => by cases h) traceParts_row_tie rfl ⟨rfl, rfl⟩ (by kernel_rfl) rfl
    (fun f fn hf hfn => by
      obtain rfl : f = 4 := Option.some.inj ((show Tryd.prog.funcNamed "linchpin/linchpinlaw25.TraceParts" = some 4 by kernel_rfl).symm.trans hf) |>.symm
      obtain rfl : fn = Tryd.f4 := (Option.some.inj (Tryd.func4.symm.trans hfn)).symm
      exact ⟨by kernel_rfl, fun j t ht => by
        rw [Tryd.params4] at ht
        rcases j with _ | j
        · obtain rfl : 27 = t := by simpa using ht
          exact (show Tryd.prog.wantsStandIn 27 = false by kernel_rfl)
        simp at ht⟩)
    (by kernel_rfl)
#print axioms proved

end Go.Proofs.YtimeodjfihpgeaaDoor.traceParts
