/-
  Records of ticks: the answers that the document fixes (law 25's awake).
-/
import Derived.Test.YtimeodjfihpgeaaDoorTrQ
namespace Go.Proofs.YtimeodjfihpgeaaDoor
open Go.RowKit

theorem itoa_dig {d : Nat} (h : d < 10) : Lib.itoa (d : Int) = [UInt8.ofNat (48 + d)] := by
  unfold Lib.itoa
  rw [if_neg (by omega), Int.toNat_natCast, Lib.decDigits, dif_pos h]
def recA : Tk := ⟨0, [0], [], [], [(7, 1, 5)]⟩
def recB : Tk := ⟨-1, [], [], [], []⟩
def recC : Tk := ⟨101, [], [], [], []⟩
theorem recA_may : mayT recA = true := by decide
theorem recB_may : mayT recB = true := by decide
theorem recC_may : mayT recC = true := by decide
theorem recA_text : textU recA = [116, 48, 43, 48, 61, 55, 100, 53] := by
  have h0 : Lib.itoa 0 = [48] := itoa_dig (d := 0) (by decide)
  have h7 : Lib.itoa 7 = [55] := itoa_dig (d := 7) (by decide)
  have h5 : Lib.itoa 5 = [53] := itoa_dig (d := 5) (by decide)
  unfold textU recA whoT marksB fatesT fateT
  simp [h0, h7, h5]
theorem recB_text : textU recB = [46] := by
  unfold textU recB whoT marksB fatesT
  simp
theorem recC_text : textU recC = [115, 49] := by
  have h1 : Lib.itoa 1 = [49] := itoa_dig (d := 1) (by decide)
  unfold textU recC whoT marksB fatesT
  simp [h1]
theorem no_t00 : ∀ t, mayT t = true → textU t ≠ [116, 48, 48] := fun t ht e => by
  have h := parts_text ht
  rw [e] at h
  have hn : numV [48, 48] = none := numV_none fun hok => hok.2.2.1 ⟨by decide, rfl⟩
  have : partsG (codes [116, 48, 48]) [] = none := by
    show partsG [116, 48, 48] [] = none
    rw [parts_mark (by decide), if_pos rfl, parts_dig (by decide), parts_dig (by decide), parts_fin]
    rw [if_neg (by decide)]
    show Option.map _ (match numV [48, 48] with | some n => some [Part.num n] | none => none) = none
    rw [hn]
    rfl
  rw [this] at h
  cases h
theorem words_two : words [46, 32, 115, 49] = [[46], [115, 49]] := by rfl

set_option maxHeartbeats 16000000 in
set_option maxRecDepth 100000 in
theorem awake25_any (w : World) (ht : Tab w) : Calls Tryd.prog 6 #[] w fun e w' => e = .returned (.bool true) ∧ Below w.heap.size w w' := by
  have HT := Box.mk ht
  have HP1 : Box (∀ w', Below w.heap.size w w' → Calls Tryd.prog 12 #[strv [116, 48, 43, 48, 61, 55, 100, 53]] w' fun e w'' => TYes recA w' e w'') := ⟨fun w' hb => tparse_yes (by decide) recA_may recA_text w' (ht.on hb)⟩
  have HP2 : Box (∀ w', Below w.heap.size w w' → Calls Tryd.prog 12 #[strv [116, 48, 48]] w' fun e w'' => e = .returned (.tuple #[.agg #[.int .i64 0, .slice none 0 0, .slice none 0 0, .slice none 0 0, .slice none 0 0], .int .i64 9]) ∧ Below w'.heap.size w' w'') := ⟨fun w' hb => tparse_no (by decide) no_t00 w' (ht.on hb)⟩
  have HP3 : Box (∀ w', Below w.heap.size w w' → Calls Tryd.prog 15 #[strv [46, 32, 115, 49]] w' fun e w'' => AllOut w' [recB, recC] e w'') := ⟨fun w' hb => tall_any [46, 32, 115, 49] (by decide) [recB, recC] (by rw [words_two]; rfl) (fun i hi hj => by
    have h2 : i = 0 ∨ i = 1 := by simp at hi; omega
    have e0 : ∀ (k : Nat) (hk : k < (words [46, 32, 115, 49]).length), (words [46, 32, 115, 49])[k] = ([[46], [115, 49]] : List Bs)[k]'(by rw [words_two] at hk; exact hk) := fun k hk => by simp only [words_two]
    rcases h2 with rfl | rfl
    · exact ⟨recB_may, by rw [e0]; exact recB_text⟩
    · exact ⟨recC_may, by rw [e0]; exact recC_text⟩) w' (ht.on hb)⟩
  clear ht
  go_enter Tryd.func6, Tryd.ntmps6
  go_upto_region 2 with (go_at_call 12; (with_reducible refine (HP1.out _ (Below.refl _ _)).mono ?_); rintro e w1 ⟨a1, n1, c1, a2, n2, c2, a3, n3, c3, a4, n4, c4, rfl, hk, hb⟩; have HK1 := Box.mk hk; have HB1 := Box.mk hb; clear hb hk)
  obtain rfl : n1 = 1 := HK1.out.dn.1.symm
  obtain rfl : n4 = 1 := HK1.out.fs.1.symm
  have hb2 : Below (World.heap w1).size w1 (World.alloc w1 (.cells #[.int .i64 recA.who, .slice a1 1 c1, .slice a2 n2 c2, .slice a3 n3 c3, .slice a4 1 c4] 27)) := (Below.refl _ _).alloc (Nat.le_refl _) _
  have HX2 : Box ((World.alloc w1 (.cells #[.int .i64 recA.who, .slice a1 1 c1, .slice a2 n2 c2, .slice a3 n3 c3, .slice a4 1 c4] 27)).heap[(World.heap w1).size]? = some (.cells #[.int .i64 recA.who, .slice a1 1 c1, .slice a2 n2 c2, .slice a3 n3 c3, .slice a4 1 c4] 27 (0, 0))) := ⟨blk_new _ _⟩
  have HB2 := Box.mk (below_step HB1.out hb2)
  have HK2 := Box.mk (HK1.out.later hb2)
  clear HB1 HK1 hb2 HP1
  generalize World.alloc w1 (.cells #[.int .i64 recA.who, .slice a1 1 c1, .slice a2 n2 c2, .slice a3 n3 c3, .slice a4 1 c4] 27) = V2 at HX2 HB2 HK2 ⊢
  generalize (World.heap w1).size = TB at HX2 ⊢
  go_upto_region 3 with (go_at_call 12; (with_reducible refine (HP2.out _ HB2.out).mono ?_); rintro e w3 ⟨rfl, hb⟩; have HB3 := Box.mk hb; clear hb)
  have hb3 : Below (World.heap w3).size w3 (World.alloc w3 (.cells #[.int .i64 0, .slice none 0 0, .slice none 0 0, .slice none 0 0, .slice none 0 0] 27)) := (Below.refl _ _).alloc (Nat.le_refl _) _
  have HB4 := Box.mk (below_step HB3.out hb3)
  clear HB3 hb3 HP2
  generalize World.alloc w3 (.cells #[.int .i64 0, .slice none 0 0, .slice none 0 0, .slice none 0 0, .slice none 0 0] 27) = V4 at HB4 ⊢
  go_upto_region 4 with (go_at_call 15; (with_reducible refine (HP3.out _ (below_step HB2.out HB4.out)).mono ?_); rintro e w5 ⟨ao, n, c, rfl, hn, hb, hc⟩; have HB5 := Box.mk (below_step HB4.out hb); have HC5 := Box.mk hc; have HN := Box.mk hn; clear hb hc hn)
  obtain rfl : n = 2 := HN.out
  obtain ⟨b, off, rfl, hbl, hcl⟩ := HC5.out (by decide)
  have l1 : World.cell? w5 ⟨b, off + 5, none⟩ = some (.int .i64 101) := hcl 1 (by decide)
  have HK5 := Box.mk (HK2.out.later HB5.out)
  obtain ⟨b4, o4, hb4, hbl4, hc4⟩ := HK5.out.fs.2.2 (by decide)
  subst hb4
  have k0 : World.cell? w5 ⟨b4, o4, none⟩ = some (.int .i64 7) := (hc4 0 (by decide)).1
  have k1 : World.cell? w5 ⟨b4, o4 + 1, none⟩ = some (.int .i64 1) := by have := (hc4 0 (by decide)).2.1; simpa [recA] using this
  have k2 : World.cell? w5 ⟨b4, o4 + 2, none⟩ = some (.int .i64 5) := by have := (hc4 0 (by decide)).2.2; simpa [recA] using this
  have HX5 := Box.mk ((HB5.out.block TB (lt_blk HX2.out)).trans HX2.out)
  have e0 : World.cell? w5 ⟨TB, 0, none⟩ = some (.int .i64 0) := (cell_blk HX5.out 0).trans rfl
  have e1 : World.cell? w5 ⟨TB, 1, none⟩ = some (.slice a1 1 c1) := (cell_blk HX5.out 1).trans rfl
  have e2 : World.cell? w5 ⟨TB, 2, none⟩ = some (.slice a2 n2 c2) := (cell_blk HX5.out 2).trans rfl
  have e3 : World.cell? w5 ⟨TB, 3, none⟩ = some (.slice a3 n3 c3) := (cell_blk HX5.out 3).trans rfl
  have e4 : World.cell? w5 ⟨TB, 4, none⟩ = some (.slice (some ⟨b4, o4, none⟩) 1 c4) := (cell_blk HX5.out 4).trans rfl
  have HBW := Box.mk (below_step HB2.out HB5.out)
  have HTX := ttext_any recA a1 1 c1 a2 n2 c2 a3 n3 c3 (some ⟨b4, o4, none⟩) 1 c4 w5 HK5.out (HT.out.on HBW.out) (by decide) (by have := HK5.out.ct.1; simp [recA] at this; omega) (by have := HK5.out.ms.1; simp [recA] at this; omega) (by decide)
  have htt : textT recA = [116, 48, 43, 48, 61, 55, 100, 53] := by unfold textT; rw [if_pos recA_may, recA_text]
  rw [htt, show recA.who = 0 from rfl] at HTX
  have HTX := Box.mk HTX
  clear htt hcl hc4 HC5 HN HP3 HK2 HK5 HX2 HX5 HB2 HB4 HB5
  go_wp2_with (go_at_call 8; (with_reducible refine HTX.out.mono ?_); rintro e w6 ⟨rfl, hb⟩; have HB6 := Box.mk (below_step HBW.out hb); clear hb)
  go_ret
  exact ⟨by first | rfl | simp, HB6.out⟩

end Go.Proofs.YtimeodjfihpgeaaDoor
