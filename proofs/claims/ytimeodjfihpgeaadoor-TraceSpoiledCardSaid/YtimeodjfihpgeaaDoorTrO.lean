/-
  Records of ticks: the reader: the walk of 'fates'.
-/
import Derived.Test.YtimeodjfihpgeaaDoorTrN
namespace Go.Proofs.YtimeodjfihpgeaaDoor
open Go.RowKit

theorem Tryd.infoFate : (Tryd.prog.info? 36).map (fun i => (i.zero, i.size, i.bytes)) = some (some (.agg #[.int .i64 0, .int .i64 0, .int .i64 0]), 3, 24) := by kernel_rfl
/-- Outcomes as cells. -/
def fc3 (l : List (Int × Int × Int)) : List Value := (l.map (fun f => [Value.int .i64 f.1, .int .i64 f.2.1, .int .i64 f.2.2])).flatten
theorem fc3_snoc (l : List (Int × Int × Int)) (f : Int × Int × Int) : fc3 (l ++ [f]) = fc3 l ++ [.int .i64 f.1, .int .i64 f.2.1, .int .i64 f.2.2] := by simp [fc3]
theorem fc3_len : ∀ (l : List (Int × Int × Int)), (fc3 l).length = l.length * 3
  | [] => rfl
  | f :: l => by
    have := fc3_len l
    simp only [fc3, List.map_cons, List.flatten_cons, List.length_append, List.length_cons, List.length_nil] at this ⊢
    omega
theorem fc3_get : ∀ (l : List (Int × Int × Int)) (i : Nat) (hi : i < l.length), (fc3 l)[i * 3]? = some (.int .i64 l[i].1) ∧ (fc3 l)[i * 3 + 1]? = some (.int .i64 l[i].2.1) ∧ (fc3 l)[i * 3 + 2]? = some (.int .i64 l[i].2.2)
  | [], i, hi => by simp at hi
  | f :: l, 0, _ => ⟨rfl, rfl, rfl⟩
  | f :: l, i + 1, hi => by
    have := fc3_get l i (by simpa using hi)
    have e : ∀ k, (fc3 (f :: l))[k + 3]? = (fc3 l)[k]? := fun k => rfl
    rw [show (i + 1) * 3 = i * 3 + 3 from by omega, show i * 3 + 3 + 1 = (i * 3 + 1) + 3 from by omega, show i * 3 + 3 + 2 = (i * 3 + 2) + 3 from by omega, e, e, e]
    exact this
theorem fates_of {w : World} {B : Nat} {ao : Option Addr} {n c : Nat} {l : List (Int × Int × Int)} (h : w.ownsRow B 36 3 (.slice ao n c) n (fc3 l)) (h6 : n ≤ 1000000) : FatesAt w ao n l := by
  have hr := RowAt.of_owns h
  have hl := hr.1
  rw [fc3_len] at hl
  refine ⟨by omega, h6, fun h0 => ?_⟩
  rcases hr.2 with ⟨_, e⟩ | ⟨b, off, cap, e, _, _, _, hb, hc⟩
  · omega
  · injection e with e _ _
    refine ⟨b, off, e, hb, fun i hi => ?_⟩
    obtain ⟨g0, g1, g2⟩ := fc3_get l i hi
    exact ⟨hc _ _ g0, hc _ _ g1, hc _ _ g2⟩
def FatesOut (w : World) (PB : Nat) (ps : List Part) (e : Ending) (w' : World) : Prop := ∃ (ao : Option Addr) (n c : Nat), e = .returned (.slice ao n c) ∧ n = (fatesP ps).1.length ∧ w'.ownsRow w.heap.size 36 3 (.slice ao n c) n (fc3 (fatesP ps).1) ∧ RdAt w' PB (fatesP ps).2 ∧ Fr (fun k => k = PB) w w'
set_option maxHeartbeats 16000000 in
theorem rfates_any (PB : Nat) (ps : List Part) (w : World) (h : RdAt w PB ps) :
    Calls Tryd.prog 28 #[.pointer (some ⟨PB, 0, none⟩)] w fun e w' => FatesOut w PB ps e w' := by
  obtain ⟨i0, hi, hz0, hz1, hz2⟩ := info_parts Tryd.infoFate
  have HR := Box.mk h
  have hPB := rd_lt h
  have hbig := rd_big h
  clear h
  go_enter Tryd.func28, Tryd.ntmps28
  go_upto_block 0 with fail
  go_wp2
  go_loopw [3, 4] (fun s3 _ wr => ∃ (l : List (Int × Int × Int)) (q : List Part) (ao : Option Addr) (c : Nat), s3 = .slice ao l.length c ∧ l.length + q.length ≤ ps.length ∧ Box (wr.ownsRow w.heap.size 36 3 (.slice ao l.length c) l.length (fc3 l)) ∧ Box (RdAt wr PB q) ∧ Box (Fr (fun k => k = PB) w wr) ∧ Box ((l ++ (fatesP q).1, (fatesP q).2) = fatesP ps)) (fun _ _ wr => lenAt wr PB)
  case atStart => exact ⟨[], ps, none, 0, rfl, by simp, ⟨World.ownsRow_nil _ _ _ _⟩, HR, ⟨Fr.refl _ _⟩, ⟨by simp⟩⟩
  case round =>
    clear HR
    obtain ⟨l, q, ao, c, rfl, hlq, HOW, HRD, HF, HX⟩ := hrel
    have HLA := Box.mk (rd_len HRD.out)
    have hsz := HF.out.size
    cases h1 : markP 61 q with
    | none =>
      have HMA : Box (∀ wr e w', MarkOut wr PB 61 q e w' → e = .returned (.bool false) ∧ RdAt w' PB q ∧ Fr (fun k => k = PB) wr w') := ⟨fun wr e w' hx => by unfold MarkOut at hx; rw [h1] at hx; exact hx⟩
      have HE : Box (fatesP ps = (l, q)) := ⟨by rw [← HX.out, fatesP_none h1]; simp⟩
      clear h1 HX
      go_wp2_with (go_at_call 38; (with_reducible refine (mark_at PB 61 q wr HRD.out 61 rfl).mono ?_); intro e w1 hx; obtain ⟨rfl, hr1, hf1⟩ := HMA.out _ e w1 hx; have HR1 := Box.mk hr1; have HG1 := Box.mk hf1; clear hx hr1 hf1)
      go_ret
      have hown := ownsRow_fr HOW.out (fun g hg => HG1.out.block g (ownsRow_lt HOW.out hg).2 (by have := (ownsRow_lt HOW.out hg).1; omega))
      exact ⟨ao, l.length, c, rfl, by rw [HE.out], by rw [HE.out]; exact hown, by rw [HE.out]; exact HR1.out, HF.out.trans HG1.out⟩
    | some x =>
      have HMA : Box (∀ wr e w', MarkOut wr PB 61 q e w' → e = .returned (.bool true) ∧ RdAt w' PB x ∧ Fr (fun k => k = PB) wr w') := ⟨fun wr e w' hx => by unfold MarkOut at hx; rw [h1] at hx; exact hx⟩
      have hE0 : ((l ++ [((numP x).1, (kindP (numP x).2).1, (numP (kindP (numP x).2).2).1)]) ++ (fatesP (numP (kindP (numP x).2).2).2).1, (fatesP (numP (kindP (numP x).2).2).2).2) = fatesP ps := by rw [← HX.out, fatesP_some h1]; simp
      have hlx := markP_len h1
      have hln := numP_len x
      clear h1 HX
      obtain ⟨V0, HV0⟩ : ∃ v, Box (v = (numP x).1) := ⟨_, ⟨rfl⟩⟩
      rw [← HV0.out] at hE0
      go_upto_region 4 with (first
        | (go_at_call 38; (with_reducible refine (mark_at PB 61 q wr HRD.out 61 rfl).mono ?_); intro e w1 hx; obtain ⟨rfl, hr1, hf1⟩ := HMA.out _ e w1 hx; have HR1 := Box.mk hr1; have HG1 := Box.mk hf1; clear hx hr1 hf1)
        | (go_at_call 39; (with_reducible refine (num_any PB x w1 HR1.out).mono ?_); rintro e w2 ⟨rfl, hr2, hf2⟩; rw [← HV0.out]; have HR2 := Box.mk hr2; have HG2 := Box.mk (HG1.out.trans hf2); clear hr2 hf2))
      obtain ⟨q1, hq1⟩ : ∃ q1, q1 = (numP x).2 := ⟨_, rfl⟩
      rw [← hq1] at HR2 hE0 hln
      have hb2 : Below (World.heap w2).size w2 (World.alloc w2 (.cells #[.int .i64 V0, .int .i64 2, .int .i64 0] 36)) := (Below.refl _ _).alloc (Nat.le_refl _) _
      have HRW3 := Box.mk (rd_fr HR2.out hb2)
      have HX3 : Box ((World.alloc w2 (.cells #[.int .i64 V0, .int .i64 2, .int .i64 0] 36)).heap[(World.heap w2).size]? = some (.cells #[.int .i64 V0, .int .i64 2, .int .i64 0] 36 (0, 0))) := ⟨blk_new _ _⟩
      have hg2 := HG2.out.size
      have HF3 : Box (Fr (fun k => k = PB) w (World.alloc w2 (.cells #[.int .i64 V0, .int .i64 2, .int .i64 0] 36))) := ⟨(HF.out.trans HG2.out).alloc _⟩
      have HOW3 := Box.mk (ownsRow_fr (w' := World.alloc w2 (.cells #[.int .i64 V0, .int .i64 2, .int .i64 0] 36)) HOW.out (fun g hg => (Below.heap_alloc _ _ _ (Nat.lt_of_lt_of_le (ownsRow_lt HOW.out hg).2 hg2)).trans (HG2.out.block g (ownsRow_lt HOW.out hg).2 (by have := (ownsRow_lt HOW.out hg).1; omega))))
      have HRB : Box (∀ g, (Value.slice ao l.length c).ownBlock = some g → g < (World.heap w2).size) := ⟨fun g hg => Nat.lt_of_lt_of_le (ownsRow_lt HOW.out hg).2 hg2⟩
      have hFBs : (World.heap w2).size < (World.alloc w2 (.cells #[.int .i64 V0, .int .i64 2, .int .i64 0] 36)).heap.size := lt_blk HX3.out
      generalize World.alloc w2 (.cells #[.int .i64 V0, .int .i64 2, .int .i64 0] 36) = V3 at HRW3 HX3 HF3 HOW3 hFBs ⊢
      clear hb2 HOW HRD HF HMA HR1 HG1 HR2 HG2
      obtain ⟨FB, hFB⟩ : ∃ FB, FB = (World.heap w2).size := ⟨_, rfl⟩
      rw [← hFB] at HX3 HRB hFBs ⊢
      have hFw : w.heap.size ≤ FB := by omega
      have hFP : PB < FB := by omega
      clear hFB hg2
      cases h2 : markP 100 q1 with
      | some q2 =>
        have HMB : Box (∀ wr e w', MarkOut wr PB 100 q1 e w' → e = .returned (.bool true) ∧ RdAt w' PB q2 ∧ Fr (fun k => k = PB) wr w') := ⟨fun wr e w' hx => by unfold MarkOut at hx; rw [h2] at hx; exact hx⟩
        have hk : kindP q1 = (1, q2) := by unfold kindP; rw [h2]
        rw [hk] at hE0
        obtain ⟨V1, HV1⟩ : ∃ v, Box (v = (numP q2).1) := ⟨_, ⟨rfl⟩⟩
        simp only at hE0
        rw [← HV1.out] at hE0
        have HE := Box.mk hE0
        have hl2 := markP_len h2
        have hl3 := numP_len q2
        clear h2 hk hE0
        go_upto_region 5 with (go_at_call 38; (with_reducible refine (mark_at PB 100 q1 V3 HRW3.out 100 rfl).mono ?_); intro e w4 hx; obtain ⟨rfl, hr1, hf1⟩ := HMB.out _ e w4 hx; have HR4 := Box.mk hr1; have HG4 := Box.mk hf1; clear hx hr1 hf1)
        have hx4 := HG4.out.blk HX3.out (by omega)
        have u1 : World.cell? w4 ⟨FB, 1, none⟩ = some (.int .i64 2) := (cell_blk hx4 1).trans rfl
        have u2' := free_blk hx4 1
        have HXW := Box.mk (blk_set (i := 1) hx4 (.int .i64 1))
        have HRW := Box.mk (rd_up (w' := World.setCell w4 ⟨FB, 1, none⟩ (.int .i64 1)) HR4.out (fun k hk => blk_set_ne _ (by omega)))
        have HFW : Box (Fr (fun k => k = PB) w (World.setCell w4 ⟨FB, 1, none⟩ (.int .i64 1))) := ⟨(HF3.out.trans HG4.out).setCell (.inr hFw) _⟩
        have HOWW := Box.mk (ownsRow_fr (w' := World.setCell w4 ⟨FB, 1, none⟩ (.int .i64 1)) HOW3.out (fun g hg => (blk_set_ne _ (by have := HRB.out g hg; omega)).trans (HG4.out.block g (by have := HRB.out g hg; omega) (by have := (ownsRow_lt HOW3.out hg).1; omega))))
        have hsV : FB < (World.setCell w4 ⟨FB, 1, none⟩ (.int .i64 1)).heap.size := by rw [setCell_size]; exact Nat.lt_of_lt_of_le hFBs HG4.out.size
        clear hx4 HX3 HRW3 HF3 HOW3 HR4 HG4 HMB
        go_upto_region 7 with fail
        generalize World.setCell w4 ⟨FB, 1, none⟩ (.int .i64 1) = W5 at HXW HRW HFW HOWW hsV ⊢
        replace HXW : Box (W5.heap[FB]? = some (.cells #[.int .i64 V0, .int .i64 1, .int .i64 0] 36 (0, 0))) := ⟨by have := HXW.out; simpa using this⟩
        clear u1 u2'
        go_upto_region 8 with (go_at_call 39; (with_reducible refine (num_any PB q2 _ HRW.out).mono ?_); rintro e w8 ⟨rfl, hr2, hf2⟩; rw [← HV1.out]; have HR8 := Box.mk hr2; have HG8 := Box.mk hf2; have hx8 := hf2.blk HXW.out (by omega); have x8 : World.cell? w8 ⟨FB, 2, none⟩ = some (.int .i64 0) := (cell_blk hx8 2).trans rfl; have y8 := free_blk hx8 2; have HX8 := Box.mk hx8; clear hr2 hf2 hx8)
        have HX9 := Box.mk (blk_set (i := 2) HX8.out (.int .i64 V1))
        have HR9 := Box.mk (rd_up (w' := World.setCell w8 ⟨FB, 2, none⟩ (.int .i64 V1)) HR8.out (fun k hk => blk_set_ne _ (by omega)))
        have HF9 : Box (Fr (fun k => k = PB) w (World.setCell w8 ⟨FB, 2, none⟩ (.int .i64 V1))) := ⟨(HFW.out.trans HG8.out).setCell (.inr (by show w.heap.size ≤ FB; omega)) _⟩
        have HO9 := Box.mk (ownsRow_fr (w' := World.setCell w8 ⟨FB, 2, none⟩ (.int .i64 V1)) HOWW.out (fun g hg => (blk_set_ne _ (by have := HRB.out g hg; omega)).trans (HG8.out.block g (by have := HRB.out g hg; have := HFW.out.size; omega) (by have := (ownsRow_lt HOWW.out hg).1; omega))))
        have hs9 : (World.heap W5).size ≤ (World.setCell w8 ⟨FB, 2, none⟩ (.int .i64 V1)).heap.size := by rw [setCell_size]; exact HG8.out.size
        have hsW := HFW.out.size
        clear x8 y8 HX8 HR8 HG8
        generalize World.setCell w8 ⟨FB, 2, none⟩ (.int .i64 V1) = V9 at HX9 HR9 HF9 HO9 hs9 ⊢
        have z0 : V9.cell? ⟨FB, 0, none⟩ = some (.int .i64 V0) := (cell_blk HX9.out 0).trans (by simp)
        have z1 : V9.cell? ⟨FB, 1, none⟩ = some (.int .i64 1) := (cell_blk HX9.out 1).trans (by simp)
        have z2 : V9.cell? ⟨FB, 2, none⟩ = some (.int .i64 V1) := (cell_blk HX9.out 2).trans (by simp)
        go_wp2_with (at_builtin; refine wpList_append_lies _ rfl (.tmp 18) (.tmp 20) 25 rfl w.heap.size 36 i0 (.agg #[.int .i64 0, .int .i64 0, .int .i64 0]) 3 24 Tryd.underlying25 hi hz0 hz1 hz2 rfl (by decide) (.slice ao l.length c) l.length (fc3 l) rfl (HO9.out.alloc _) ⟨V9.heap.size, 0, none⟩ 1 1 [.int .i64 V0, .int .i64 1, .int .i64 V1] rfl rfl (World.news_of_block (cs := #[.int .i64 V0, .int .i64 1, .int .i64 V1]) (blk_new _ _)) ?h1a (by omega) ?b1a ?b2a ?b3a _ rfl ?nxta)
        case h1a => simp [Value.oneCell']
        case b1a => unfold maxLen; omega
        case b2a => omega
        case b3a => simp; omega
        case nxta =>
          intro g3 c3 w3 ho3 hg3 _ _
          have hne : ∀ k, (Value.slice ao l.length c).ownBlock = some k → w.heap.size ≤ k := fun k hk => (ownsRow_lt HO9.out hk).1
          have hfa : Fr (fun k => k = PB) w w3 := (HF9.out.alloc _).grown hg3 (fun k hk => .inr (hne k hk))
          have hup : ∀ k, k ≤ PB → w3.heap[k]? = V9.heap[k]? := fun k hk => by
            rw [hg3.block k (by simp; omega) (fun e => by have := hne k e.symm; omega), Below.heap_alloc _ _ _ (by omega)]
          have HR3 := Box.mk (rd_up HR9.out hup)
          have HLB := Box.mk (rd_len HR3.out)
          have HO3 : Box (w3.ownsRow w.heap.size 36 3 (.slice (some ⟨g3, 0, none⟩) (l ++ [(V0, (1 : Int), V1)]).length c3) (l ++ [(V0, (1 : Int), V1)]).length (fc3 (l ++ [(V0, (1 : Int), V1)]))) := ⟨by
            rw [fc3_snoc, List.length_append]
            exact ho3⟩
          have HF3 := Box.mk hfa
          clear ho3 hg3 hne hfa hup
          go_wp2
          go_roundw
          case rel => exact ⟨l ++ [(V0, (1 : Int), V1)], (numP q2).2, some ⟨g3, 0, none⟩, c3, by simp, by simp; omega, HO3, HR3, HF3, HE⟩
          case measure => rw [HLB.out, HLA.out]; omega
      | none =>
        have HMB : Box (∀ wr e w', MarkOut wr PB 100 q1 e w' → e = .returned (.bool false) ∧ RdAt w' PB q1 ∧ Fr (fun k => k = PB) wr w') := ⟨fun wr e w' hx => by unfold MarkOut at hx; rw [h2] at hx; exact hx⟩
        obtain ⟨q2, hq2⟩ : ∃ q2, q2 = (markP 97 q1).getD q1 := ⟨_, rfl⟩
        have hk : kindP q1 = (2, q2) := by unfold kindP; rw [h2, hq2]
        have hl2 : q2.length ≤ q1.length := by have := kindP_len q1; rw [hk] at this; exact this
        rw [hk] at hE0
        obtain ⟨V1, HV1⟩ : ∃ v, Box (v = (numP q2).1) := ⟨_, ⟨rfl⟩⟩
        simp only at hE0
        rw [← HV1.out] at hE0
        have HE := Box.mk hE0
        have hl3 := numP_len q2
        have HQ2 := Box.mk hq2
        clear h2 hk hE0 hq2
        go_upto_region 7 with (first
          | (go_at_call 38; (with_reducible refine (mark_at PB 100 q1 V3 HRW3.out 100 rfl).mono ?_); intro e w4 hx; obtain ⟨rfl, hr1, hf1⟩ := HMB.out _ e w4 hx; have HR4 := Box.mk hr1; have HG4 := Box.mk hf1; clear hx hr1 hf1)
          | (go_at_call 38; (with_reducible refine (mark_at PB 97 q1 w4 HR4.out 97 rfl).mono ?_); rintro e w5 ⟨rfl, hr2, hf2⟩; rw [← HQ2.out] at hr2; have HRW := Box.mk hr2; have HG5 := Box.mk (HG4.out.trans hf2); clear hr2 hf2))
        have HXW := Box.mk (HG5.out.blk HX3.out (by omega))
        have HFW := Box.mk (HF3.out.trans HG5.out)
        have HOWW := Box.mk (ownsRow_fr (w' := w5) HOW3.out (fun g hg => HG5.out.block g (by have := HRB.out g hg; omega) (by have := (ownsRow_lt HOW3.out hg).1; omega)))
        have hsV : FB < (World.heap w5).size := Nat.lt_of_lt_of_le hFBs HG5.out.size
        clear HX3 HRW3 HF3 HOW3 HR4 HG4 HG5 HMB
        go_upto_region 8 with (go_at_call 39; (with_reducible refine (num_any PB q2 _ HRW.out).mono ?_); rintro e w8 ⟨rfl, hr2, hf2⟩; rw [← HV1.out]; have HR8 := Box.mk hr2; have HG8 := Box.mk hf2; have hx8 := hf2.blk HXW.out (by omega); have x8 : World.cell? w8 ⟨FB, 2, none⟩ = some (.int .i64 0) := (cell_blk hx8 2).trans rfl; have y8 := free_blk hx8 2; have HX8 := Box.mk hx8; clear hr2 hf2 hx8)
        have HX9 := Box.mk (blk_set (i := 2) HX8.out (.int .i64 V1))
        have HR9 := Box.mk (rd_up (w' := World.setCell w8 ⟨FB, 2, none⟩ (.int .i64 V1)) HR8.out (fun k hk => blk_set_ne _ (by omega)))
        have HF9 : Box (Fr (fun k => k = PB) w (World.setCell w8 ⟨FB, 2, none⟩ (.int .i64 V1))) := ⟨(HFW.out.trans HG8.out).setCell (.inr (by show w.heap.size ≤ FB; omega)) _⟩
        have HO9 := Box.mk (ownsRow_fr (w' := World.setCell w8 ⟨FB, 2, none⟩ (.int .i64 V1)) HOWW.out (fun g hg => (blk_set_ne _ (by have := HRB.out g hg; omega)).trans (HG8.out.block g (by have := HRB.out g hg; have := HFW.out.size; omega) (by have := (ownsRow_lt HOWW.out hg).1; omega))))
        have hs9 : (World.heap w5).size ≤ (World.setCell w8 ⟨FB, 2, none⟩ (.int .i64 V1)).heap.size := by rw [setCell_size]; exact HG8.out.size
        have hsW := HFW.out.size
        clear x8 y8 HX8 HR8 HG8
        generalize World.setCell w8 ⟨FB, 2, none⟩ (.int .i64 V1) = V9 at HX9 HR9 HF9 HO9 hs9 ⊢
        have z0 : V9.cell? ⟨FB, 0, none⟩ = some (.int .i64 V0) := (cell_blk HX9.out 0).trans (by simp)
        have z1 : V9.cell? ⟨FB, 1, none⟩ = some (.int .i64 2) := (cell_blk HX9.out 1).trans (by simp)
        have z2 : V9.cell? ⟨FB, 2, none⟩ = some (.int .i64 V1) := (cell_blk HX9.out 2).trans (by simp)
        go_wp2_with (at_builtin; refine wpList_append_lies _ rfl (.tmp 18) (.tmp 20) 25 rfl w.heap.size 36 i0 (.agg #[.int .i64 0, .int .i64 0, .int .i64 0]) 3 24 Tryd.underlying25 hi hz0 hz1 hz2 rfl (by decide) (.slice ao l.length c) l.length (fc3 l) rfl (HO9.out.alloc _) ⟨V9.heap.size, 0, none⟩ 1 1 [.int .i64 V0, .int .i64 2, .int .i64 V1] rfl rfl (World.news_of_block (cs := #[.int .i64 V0, .int .i64 2, .int .i64 V1]) (blk_new _ _)) ?h1b (by omega) ?b1b ?b2b ?b3b _ rfl ?nxtb)
        case h1b => simp [Value.oneCell']
        case b1b => unfold maxLen; omega
        case b2b => omega
        case b3b => simp; omega
        case nxtb =>
          intro g3 c3 w3 ho3 hg3 _ _
          have hne : ∀ k, (Value.slice ao l.length c).ownBlock = some k → w.heap.size ≤ k := fun k hk => (ownsRow_lt HO9.out hk).1
          have hfa : Fr (fun k => k = PB) w w3 := (HF9.out.alloc _).grown hg3 (fun k hk => .inr (hne k hk))
          have hup : ∀ k, k ≤ PB → w3.heap[k]? = V9.heap[k]? := fun k hk => by
            rw [hg3.block k (by simp; omega) (fun e => by have := hne k e.symm; omega), Below.heap_alloc _ _ _ (by omega)]
          have HR3 := Box.mk (rd_up HR9.out hup)
          have HLB := Box.mk (rd_len HR3.out)
          have HO3 : Box (w3.ownsRow w.heap.size 36 3 (.slice (some ⟨g3, 0, none⟩) (l ++ [(V0, (2 : Int), V1)]).length c3) (l ++ [(V0, (2 : Int), V1)]).length (fc3 (l ++ [(V0, (2 : Int), V1)]))) := ⟨by
            rw [fc3_snoc, List.length_append]
            exact ho3⟩
          have HF3 := Box.mk hfa
          clear ho3 hg3 hne hfa hup
          go_wp2
          go_roundw
          case rel => exact ⟨l ++ [(V0, (2 : Int), V1)], (numP q2).2, some ⟨g3, 0, none⟩, c3, by simp, by simp; omega, HO3, HR3, HF3, HE⟩
          case measure => rw [HLB.out, HLA.out]; omega

end Go.Proofs.YtimeodjfihpgeaaDoor
