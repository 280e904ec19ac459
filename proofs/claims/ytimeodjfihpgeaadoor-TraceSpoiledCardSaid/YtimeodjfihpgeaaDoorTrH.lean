/-
  Records of ticks: the walk of the document's 'Text'.
-/
import Derived.Test.YtimeodjfihpgeaaDoorTrG
import Derived.Test.YtimeodjfihpgeaaDoorTrE
import Derived.Deep.RegionHeld3
namespace Go.Proofs.YtimeodjfihpgeaaDoor
open Go.RowKit

theorem five_app (k A B C D : Bs) : Value.string (⟨k.toArray⟩ ++ ⟨A.toArray⟩ ++ ⟨B.toArray⟩ ++ ⟨C.toArray⟩ ++ ⟨D.toArray⟩) = .string ⟨(k ++ A ++ B ++ C ++ D).toArray⟩ := by simp only [strb_app]
set_option maxHeartbeats 16000000 in
set_option maxRecDepth 100000 in
theorem rttext_any (t : Tk) (a1 : Option Addr) (n1 c1 : Nat) (a2 : Option Addr) (n2 c2 : Nat) (a3 : Option Addr) (n3 c3 : Nat) (a4 : Option Addr) (n4 c4 : Nat) (w : World) (h : TkAt w t a1 n1 a2 n2 a3 n3 a4 n4) (b1 : n1 ≤ 10000) (b2 : n2 ≤ 10000) (b3 : n3 ≤ 10000) (b4 : n4 ≤ 10000) : Calls Tryd.prog 9 #[.agg #[.int .i64 t.who, .slice a1 n1 c1, .slice a2 n2 c2, .slice a3 n3 c3, .slice a4 n4 c4]] w fun e w' => e = .returned (strv (textT t)) ∧ Below w.heap.size w w' := by
  have hbl : Below w.heap.size w (w.alloc (.cells #[.int .i64 t.who, .slice a1 n1 c1, .slice a2 n2 c2, .slice a3 n3 c3, .slice a4 n4 c4] 27)) := (Below.refl _ w).alloc (Nat.le_refl _) _
  have HB := Box.mk hbl
  have HK := Box.mk (h.later hbl)
  have HX1 : Box ((w.alloc (.cells #[.int .i64 t.who, .slice a1 n1 c1, .slice a2 n2 c2, .slice a3 n3 c3, .slice a4 n4 c4] 27)).heap[w.heap.size]? = some (.cells #[.int .i64 t.who, .slice a1 n1 c1, .slice a2 n2 c2, .slice a3 n3 c3, .slice a4 n4 c4] 27 (0, 0))) := ⟨blk_new _ _⟩
  clear h hbl
  go_enter Tryd.func9, Tryd.ntmps9
  go_upto_region 1 with fail
  generalize hV : w.alloc (.cells #[.int .i64 t.who, .slice a1 n1 c1, .slice a2 n2 c2, .slice a3 n3 c3, .slice a4 n4 c4] 27) = V at HB HX1 HK ⊢
  have HVS : Box (V.heap.size = w.heap.size + 1) := ⟨by rw [← hV]; simp⟩
  clear hV
  have HC : Box (∀ w', Below V.heap.size V w' → w'.cell? ⟨w.heap.size, 0, none⟩ = some (.int .i64 t.who) ∧ w'.cell? ⟨w.heap.size, 1, none⟩ = some (.slice a1 n1 c1) ∧ w'.cell? ⟨w.heap.size, 2, none⟩ = some (.slice a2 n2 c2) ∧ w'.cell? ⟨w.heap.size, 3, none⟩ = some (.slice a3 n3 c3) ∧ w'.cell? ⟨w.heap.size, 4, none⟩ = some (.slice a4 n4 c4)) := ⟨fun w' hb => by
    have h5 := (hb.block w.heap.size (lt_blk HX1.out)).trans HX1.out
    exact ⟨(cell_blk h5 0).trans rfl, (cell_blk h5 1).trans rfl, (cell_blk h5 2).trans rfl, (cell_blk h5 3).trans rfl, (cell_blk h5 4).trans rfl⟩⟩
  have HBW : Box (∀ w', Below V.heap.size V w' → Below w.heap.size w w') := ⟨fun w' hb => HB.out.trans (hb.mono (by have := HVS.out; omega))⟩
  have HM := Box.mk (trmay_any t a1 n1 c1 a2 n2 c2 a3 n3 c3 a4 n4 c4 V HK.out)
  have hwl : w.heap.size < V.heap.size := by have := HVS.out; omega
  clear HB HX1 HVS
  obtain ⟨e0, e1, e2, e3, e4⟩ := HC.out V (Below.refl _ _)
  cases hm : mayT t with
  | false =>
    rw [hm] at HM
    have HE : Box (textT t = []) := ⟨by unfold textT; rw [hm]; rfl⟩
    go_wp2_with (go_at_call 11; (with_reducible refine HM.out.mono ?_); rintro e w1 ⟨rfl, hb⟩; have HB1 := Box.mk hb; clear hb)
    go_ret
    exact ⟨by rw [HE.out]; rfl, HBW.out _ HB1.out⟩
  | true =>
    rw [hm] at HM
    have HE : Box (textT t = textU t) := ⟨by unfold textT; rw [if_pos hm]⟩
    obtain ⟨m0, m1, m2, m3, m4⟩ := may_parts hm
    have HR1 := Box.mk (rising_bounds (by omega) m1)
    have HR2 := Box.mk (rising_bounds (by omega) m2)
    have HR3 := Box.mk (rising_bounds (by omega) m3)
    have HF := Box.mk m4
    have HW := Box.mk (who_three m0)
    clear m0 m1 m2 m3 m4
    go_upto_if 11 with (go_at_call 11; (with_reducible refine HM.out.mono ?_); rintro e w1 ⟨rfl, hb⟩; have HB1 := Box.mk hb; obtain ⟨f0, f1, f2, f3, f4⟩ := HC.out w1 hb; clear hb)
    clear HM hm
    go_cut [3] (fun s3 wx => s3 = .string ⟨(whoT t.who).toArray⟩ ∧ Box (Below V.heap.size V wx))
    case first =>
      rcases HW.out with ⟨q1, q2⟩ | ⟨q1, q2⟩ | q1
      · have hwb : IntKind.i64.wrap (t.who - 100) = t.who - 100 := IntWalk.i64_in _ (by omega)
        have HO := Box.mk (fun w => digits_any (t.who - 100) (by omega) (by omega) w)
        have hl : (Lib.itoa (t.who - 100)).length ≤ 21 := Lib.itoa_length_le _ (by omega) (by omega)
        have HWT : Box (whoT t.who = [115] ++ Lib.itoa (t.who - 100)) := ⟨by unfold whoT; rw [if_pos (by omega)]; rfl⟩
        generalize Lib.itoa (t.who - 100) = l at HO hl HWT
        have hs1 : (⟨l.toArray⟩ : ByteArray).size ≤ 21 := by rw [bts_size]; simp; omega
        go_wp2_with (go_at_call 17; (with_reducible refine (HO.out _).mono ?_); rintro e w2 ⟨rfl, hb⟩; have HB2 := Box.mk (below_step HB1.out hb); clear hb)
        go_meet
        exact ⟨by rw [HWT.out, strb_app], HB2⟩
      · have q3 : ¬ 100 ≤ t.who := by omega
        have HO := Box.mk (fun w => digits_any t.who (by omega) (by omega) w)
        have hl : (Lib.itoa t.who).length ≤ 21 := Lib.itoa_length_le _ (by omega) (by omega)
        have HWT : Box (whoT t.who = [116] ++ Lib.itoa t.who) := ⟨by unfold whoT; rw [if_neg (by omega), if_pos (by omega)]; rfl⟩
        generalize Lib.itoa t.who = l at HO hl HWT
        have hs1 : (⟨l.toArray⟩ : ByteArray).size ≤ 21 := by rw [bts_size]; simp; omega
        go_wp2_with (go_at_call 17; (with_reducible refine (HO.out _).mono ?_); rintro e w2 ⟨rfl, hb⟩; have HB2 := Box.mk (below_step HB1.out hb); clear hb)
        go_meet
        exact ⟨by rw [HWT.out, strb_app], HB2⟩
      · have q3 : ¬ 100 ≤ t.who := by omega
        have q4 : ¬ 0 ≤ t.who := by omega
        go_wp2
        go_meet
        exact ⟨by unfold whoT; rw [if_neg (by omega), if_neg (by omega)], HB1⟩
    case rest =>
      obtain ⟨rfl, HBX⟩ := hcut
      rename World => V2
      obtain ⟨g0, g1, g2, g3, g4⟩ := HC.out V2 HBX.out
      have hx0 : (whoT t.who).length ≤ 22 := by
        have hi := fun v : Int => Lib.itoa_length_le v
        unfold whoT
        split
        · have := hi (t.who - 100) (by omega) (by have := HW.out; omega); simp; omega
        · split
          · have := hi t.who (by omega) (by have := HW.out; omega); simp; omega
          · simp
      have hd := marks_len (m := [43]) (fun v hv => ⟨(HR1.out v hv).1, by have := (HR1.out v hv).2; omega⟩)
      have hc := marks_len (m := [47]) (fun v hv => ⟨(HR2.out v hv).1, by have := (HR2.out v hv).2; omega⟩)
      have hq := marks_len (m := [33]) (fun v hv => ⟨(HR3.out v hv).1, by have := (HR3.out v hv).2; omega⟩)
      simp only [List.length_cons, List.length_nil, HK.out.dn.1, HK.out.ct.1, HK.out.ms.1] at hd hc hq
      have HM1 : Box (∀ w', Below V.heap.size V w' → Calls Tryd.prog 18 #[strv [43], .slice a1 n1 c1] w' fun e w'' => e = .returned (strv (marksB [43] t.dn)) ∧ Below w'.heap.size w' w'') := ⟨fun w' hb => each_any [43] (by decide) a1 n1 c1 t.dn w' (HK.out.dn.later hb) (fun v hv => ⟨(HR1.out v hv).1, by have := (HR1.out v hv).2; omega⟩)⟩
      have HM2 : Box (∀ w', Below V.heap.size V w' → Calls Tryd.prog 18 #[strv [47], .slice a2 n2 c2] w' fun e w'' => e = .returned (strv (marksB [47] t.ct)) ∧ Below w'.heap.size w' w'') := ⟨fun w' hb => each_any [47] (by decide) a2 n2 c2 t.ct w' (HK.out.ct.later hb) (fun v hv => ⟨(HR2.out v hv).1, by have := (HR2.out v hv).2; omega⟩)⟩
      have HM3 : Box (∀ w', Below V.heap.size V w' → Calls Tryd.prog 18 #[strv [33], .slice a3 n3 c3] w' fun e w'' => e = .returned (strv (marksB [33] t.ms)) ∧ Below w'.heap.size w' w'') := ⟨fun w' hb => each_any [33] (by decide) a3 n3 c3 t.ms w' (HK.out.ms.later hb) (fun v hv => ⟨(HR3.out v hv).1, by have := (HR3.out v hv).2; omega⟩)⟩
      have HE2 : Box (textU t = (whoT t.who ++ marksB [43] t.dn ++ marksB [47] t.ct ++ marksB [33] t.ms) ++ fatesT t.fs) := ⟨by unfold textU; simp only [List.append_assoc]⟩
      have HKF : Box (∀ w', Below V.heap.size V w' → FatesAt w' a4 n4 t.fs) := ⟨fun w' hb => HK.out.fs.later hb⟩
      clear HK HR1 HR2 HR3 f0 f1 f2 f3 f4 HB1 HW
      generalize whoT t.who = X0 at hx0 HE2
      generalize marksB [43] t.dn = X1 at hd HM1 HE2
      generalize marksB [47] t.ct = X2 at hc HM2 HE2
      generalize marksB [33] t.ms = X3 at hq HM3 HE2
      go_upto_region 8 with fail
      have hbr := HBX.out
      have hbd := hbr.drew
      have hl1 : ¬ 9223372036854775807 < X0.length + X1.length := by omega
      have hl2 : ¬ 9223372036854775807 < X0.length + X1.length + X2.length := by omega
      have hl3 : ¬ 9223372036854775807 < X0.length + X1.length + X2.length + X3.length := by omega
      go_region_held3 (fun w' => w'.cell? ⟨w.heap.size, 1, none⟩ = some (.slice a1 n1 c1) ∧ w'.cell? ⟨w.heap.size, 2, none⟩ = some (.slice a2 n2 c2) ∧ w'.cell? ⟨w.heap.size, 3, none⟩ = some (.slice a3 n3 c3) ∧ Below V.heap.size V w') (simp [*, below_drew])
        (first
          | (go_at_call 18; (with_reducible refine (HM1.out _ (by first | assumption | exact hbr.drew)).mono ?_); rintro e w5 ⟨rfl, hb⟩; have hb7 := below_step (w := V) (by first | assumption | exact hbr.drew) hb; obtain ⟨g0, g1, g2, g3, g4⟩ := HC.out w5 hb7)
          | (go_at_call 18; (with_reducible refine (HM2.out _ (by first | assumption | exact hbr.drew)).mono ?_); rintro e w5 ⟨rfl, hb⟩; have hb7 := below_step (w := V) (by first | assumption | exact hbr.drew) hb; obtain ⟨g0, g1, g2, g3, g4⟩ := HC.out w5 hb7)
          | (go_at_call 18; (with_reducible refine (HM3.out _ (by first | assumption | exact hbr.drew)).mono ?_); rintro e w5 ⟨rfl, hb⟩; have hb7 := below_step (w := V) (by first | assumption | exact hbr.drew) hb; obtain ⟨g0, g1, g2, g3, g4⟩ := HC.out w5 hb7))
      go_upto_block 0 with fail
      have hbs : Below V.heap.size V w5 := hb7
      have HB5 := Box.mk hbs
      clear hbs hbr hbd HM1 HM2 HM3 HBX hl1 hl2 hl3
      obtain ⟨P0, HP0⟩ : ∃ P0, Box (P0 = X0 ++ X1 ++ X2 ++ X3) := ⟨_, ⟨rfl⟩⟩
      rw [← HP0.out] at HE2
      have hp0 : P0.length ≤ 700000 := by rw [HP0.out]; simp only [List.length_append]; omega
      go_wp2
      go_loopw [3, 4] (fun s3 s4 wr => ∃ (i : Nat) (k : Bs), i ≤ n4 ∧ s4 = .int .i64 i ∧ s3 = .string ⟨k.toArray⟩ ∧ k.length ≤ 700000 + 50 * i ∧ Box (k = P0 ++ fatesT (t.fs.take i)) ∧ Box (Below V.heap.size V wr)) (fun _ s4 _ => n4 - (intOf s4).toNat)
      case atStart => exact ⟨0, P0, by omega, rfl, by rw [HP0.out]; simp only [strb_app], by omega, ⟨by simp [fatesT]⟩, HB5⟩
      case round =>
        clear HB5 HP0
        obtain ⟨i, k, hi, rfl, rfl, hk, HX, HBR⟩ := hrel
        obtain ⟨g0, g1, g2, g3, g4⟩ := HC.out wr HBR.out
        by_cases hlt : i < n4
        · obtain ⟨b, off, p, kd, v, rfl, hbz, hdr, d0, d1, d2⟩ := (HKF.out wr HBR.out).at hlt
          have hii : (i : Int) < n4 := by omega
          have hi0 : (0 : Int) ≤ i := by omega
          have hfl := (HKF.out wr HBR.out).1
          have hit : i < t.fs.length := by omega
          have hfe : t.fs[i] = (p, kd, v) := by
            have := List.drop_eq_getElem_cons hit
            rw [hdr] at this
            injection this with this _
            exact this.symm
          have hfb := fate_bounds (HF.out _ (List.getElem_mem hit))
          rw [hfe] at hfb
          have HX2 : Box (k ++ [61] ++ Lib.itoa p ++ [kindC kd] ++ Lib.itoa v = P0 ++ fatesT (t.fs.take (i + 1))) := ⟨by rw [HX.out, List.take_succ_eq_append_getElem hit, fatesT_snoc, hfe, fateT_kind]; simp⟩
          obtain ⟨⟨hp1, hp2⟩, hkk, hv1, hv2⟩ := hfb
          simp only at hp1 hp2 hkk hv1 hv2
          clear hdr hfl hfe HX hit
          have hlp : (Lib.itoa p).length ≤ 21 := Lib.itoa_length_le _ (by omega) (by omega)
          have hlv : (Lib.itoa v).length ≤ 21 := Lib.itoa_length_le _ (by omega) (by omega)
          have HO1 := Box.mk (fun w => digits_any p (by omega) (by omega) w)
          have HO2 := Box.mk (fun w => digits_any v (by omega) (by omega) w)
          have HD2 : Box (∀ w', Below wr.heap.size wr w' → w'.cell? ⟨b, off + i * 3 + 1, none⟩ = some (.int .i64 kd) ∧ w'.cell? ⟨b, off + i * 3 + 2, none⟩ = some (.int .i64 v)) := ⟨fun w' hb => ⟨(hb.cell (p := ⟨b, off + i * 3 + 1, none⟩) hbz).trans d1, (hb.cell (p := ⟨b, off + i * 3 + 2, none⟩) hbz).trans d2⟩⟩
          generalize Lib.itoa p = A at HO1 HX2 hlp
          generalize Lib.itoa v = B at HO2 HX2 hlv
          have hs1 : (⟨k.toArray⟩ : ByteArray).size ≤ 1300000 := by rw [bts_size]; simp; omega
          have hs2 : (⟨A.toArray⟩ : ByteArray).size ≤ 21 := by rw [bts_size]; simp; omega
          have hs3 : (⟨B.toArray⟩ : ByteArray).size ≤ 21 := by rw [bts_size]; simp; omega
          have hs4 : (⟨k.toArray⟩ ++ ⟨#[61]⟩ : ByteArray).size ≤ 1300001 := by simp only [ByteArray.size_append]; show _ + 1 ≤ _; omega
          have hs5 : (⟨k.toArray⟩ ++ ⟨#[61]⟩ ++ ⟨A.toArray⟩ : ByteArray).size ≤ 1300022 := by simp only [ByteArray.size_append] at hs4 ⊢; omega
          have hs6 : (⟨k.toArray⟩ ++ ⟨#[61]⟩ ++ ⟨A.toArray⟩ ++ ⟨#[100]⟩ : ByteArray).size ≤ 1300023 := by simp only [ByteArray.size_append] at hs5 ⊢; show _ + 1 ≤ _; omega
          have hs7 : (⟨k.toArray⟩ ++ ⟨#[61]⟩ ++ ⟨A.toArray⟩ ++ ⟨#[97]⟩ : ByteArray).size ≤ 1300023 := by simp only [ByteArray.size_append] at hs5 ⊢; show _ + 1 ≤ _; omega
          rcases hkk with rfl | rfl
          all_goals
            go_wp2_with (first
              | (go_at_call 17; (with_reducible refine (HO1.out _).mono ?_); rintro e w6 ⟨rfl, hb⟩; have HB6 := Box.mk (below_step HBR.out hb); obtain ⟨h1, h2⟩ := HD2.out w6 hb; obtain ⟨q0, q1, q2, q3, q4⟩ := HC.out w6 HB6.out; clear hb)
              | (go_at_call 17; (with_reducible refine (HO2.out _).mono ?_); rintro e w7 ⟨rfl, hb⟩; have HB7 := Box.mk (below_step HB6.out hb); clear hb))
            go_roundw
            case rel => exact ⟨i + 1, _, by omega, by go_num, five_app _ _ _ _ _, by simp only [List.length_append, List.length_cons, List.length_nil]; omega, HX2, HB7⟩
            case measure => simp [intOf] <;> omega
        · obtain rfl : n4 = i := by omega
          have hii : ¬ (n4 : Int) < n4 := by omega
          have HF2 : Box (k = textU t) := ⟨by rw [HX.out, HE2.out, List.take_of_length_le (by have := (HKF.out wr HBR.out).1; omega)]⟩
          clear HX
          go_wp2
          go_ret
          exact ⟨by rw [HE.out, ← HF2.out]; rfl, HBW.out _ HBR.out⟩

end Go.Proofs.YtimeodjfihpgeaaDoor
