/-
  The walk of the document's 'Parse'.
-/
import Derived.Test.YtanlodaimbocoaaDoorStJ
namespace Go.Proofs.YtanlodaimbocoaaDoor
open Go.RowKit

set_option maxHeartbeats 16000000 in
set_option maxRecDepth 100000 in
theorem rparse_any (s : ByteArray) (hs : s.size ≤ 100000) (w : World) : Calls Tryd.prog 10 #[.string s] w fun e w' => ParseOut w.heap.size w' e (parseV s.data.toList) ∧ Below w.heap.size w w' := by
  obtain ⟨ii, hi, hz0, hz1, hz2⟩ := info_parts Tryd.infoI
  have HWD := Box.mk (fun w => rwords_any s (by omega) w)
  have HWM : Box (∀ x ∈ words s.data.toList, x.length ≤ 100000) := ⟨fun x hx => by have := (words_mem hx).2.2; rw [← bts_size] at this; omega⟩
  have HWL : Box ((words s.data.toList).length ≤ 100000) := ⟨by have := words_len s.data.toList; rw [← bts_size] at this; omega⟩
  have HPV : Box (parseV s.data.toList = match words s.data.toList with
    | [] => none
    | x :: r => match numsV r with
      | some z => if mayB x z = true then some (x, z) else none
      | none => none) := ⟨rfl⟩
  generalize parseV s.data.toList = pv at HPV ⊢
  generalize words s.data.toList = W at HWD HWM HWL HPV
  obtain ⟨R0, hR0⟩ : ∃ R0, w.heap.size = R0 := ⟨_, rfl⟩
  have HR0 := Box.mk hR0
  have HB0 : Box (Below R0 w (w.alloc (.cells #[.string ⟨#[]⟩, .slice none 0 0] 25))) := ⟨(Below.refl _ _).alloc (by omega) _⟩
  have HX0 : Box ((w.alloc (.cells #[.string ⟨#[]⟩, .slice none 0 0] 25)).heap[R0]? = some (.cells #[.string ⟨#[]⟩, .slice none 0 0] 25 (0, 0))) := ⟨by rw [← hR0]; exact blk_new _ _⟩
  rw [hR0]
  clear hR0
  go_enter Tryd.func10, Tryd.ntmps10
  go_upto_region 1 with fail
  generalize w.alloc (.cells #[.string ⟨#[]⟩, .slice none 0 0] 25) = V0 at HB0 HX0 ⊢
  rw [HR0.out]
  have HRL : Box (R0 < V0.heap.size) := ⟨lt_blk HX0.out⟩
  cases W with
  | nil =>
    have HE : Box (pv = none) := ⟨HPV.out⟩
    go_upto_region 3 with (go_at_call 17; (with_reducible refine (HWD.out _).mono ?_); rintro e w2 ⟨v, rfl, hso, hb⟩; obtain ⟨wa, wc, rfl, hown⟩ := hso; have HB1 := Box.mk hb; clear hown hb)
    have HBb : Box (Below R0 w w2) := ⟨HB0.out.trans (HB1.out.mono (by have := HRL.out; omega))⟩
    have HXb : Box (w2.heap[R0]? = some (.cells #[.string ⟨#[]⟩, .slice none 0 0] 25 (0, 0))) := ⟨by rw [HB1.out.block R0 HRL.out]; exact HX0.out⟩
    have r0 : World.cell? w2 ⟨R0, 0, none⟩ = some (.string ⟨#[]⟩) := (cell_blk HXb.out 0).trans rfl
    have r1 : World.cell? w2 ⟨R0, 1, none⟩ = some (.slice none 0 0) := (cell_blk HXb.out 1).trans rfl
    have f0 : World.frozen? w2 ⟨R0, 0, none⟩ = false := free_blk HXb.out 0
    have f1 : World.frozen? w2 ⟨R0, 1, none⟩ = false := free_blk HXb.out 1
    clear HPV HWM HWL
    go_wp2
    obtain ⟨q0, q1, hbw⟩ := res_world HXb.out HBb.out (a := .string ⟨#[]⟩) (b := .slice none 0 0)
    have HBW := Box.mk hbw
    clear hbw r0 r1 f0 f1
    refine bodyPost_ret (v := .tuple #[.agg #[.string ⟨#[]⟩, .slice none 0 0], .int .i64 9]) (by simp [results, Tryd.results10, go_sem, q0, q1]) rfl ⟨by rw [HE.out]; rfl, HBW.out⟩
  | cons x r =>
    have HXL : Box (x.length ≤ 100000 ∧ ∀ y ∈ r, y.length ≤ 100000) := ⟨HWM.out x (List.mem_cons_self ..), fun y hy => HWM.out y (List.mem_cons_of_mem _ hy)⟩
    obtain ⟨N, hN⟩ : ∃ N, (x :: r).length = N := ⟨_, rfl⟩
    rw [hN] at HWL
    unfold StrOut at HWD
    rw [hN] at HWD
    have HNR := Box.mk hN
    have hN6 : N ≤ 100000 := HWL.out
    have hN1 : 1 ≤ N := by rw [← hN]; simp
    have hN0b : ((N : Int) == 0) = false := beq_eq_false_iff_ne.2 (by omega)
    have hN1i : (0 : Int) < N := by omega
    clear hN HWM HWL
    go_upto_region 2 with (go_at_call 17; (with_reducible refine (HWD.out _).mono ?_); rintro e w2 ⟨v, rfl, hso, hb⟩; obtain ⟨wa, wc, rfl, hown⟩ := hso; have HVL := Box.mk (VRow.own hown); have HB1 := Box.mk hb; clear hown hb)
    have HBb : Box (Below R0 w w2) := ⟨HB0.out.trans (HB1.out.mono (by have := HRL.out; omega))⟩
    have HXb : Box (w2.heap[R0]? = some (.cells #[.string ⟨#[]⟩, .slice none 0 0] 25 (0, 0))) := ⟨by rw [HB1.out.block R0 HRL.out]; exact HX0.out⟩
    obtain ⟨g, off, rfl, hgl, hcl⟩ := HVL.out (by simp [strV])
    have l0 : World.cell? w2 ⟨g, off, none⟩ = some (strv x) := hcl 0 (by simp [strV])
    have HLC : Box (∀ j (hj : j < r.length), World.cell? w2 ⟨g, off + (j + 1), none⟩ = some (strv r[j])) := ⟨fun j hj => by
      have := hcl (j + 1) (by simpa [strV] using hj)
      simpa [strV] using this⟩
    clear hcl HVL HB0 HX0 HB1 HRL HWD
    obtain ⟨C0, hC0⟩ : ∃ C0, w2.heap.size = C0 := ⟨_, rfl⟩
    have HXc : Box ((w2.alloc (.cells #[strv x, .slice none 0 0] 25)).heap[C0]? = some (.cells #[strv x, .slice none 0 0] 25 (0, 0))) := ⟨by rw [← hC0]; exact blk_new _ _⟩
    have HBc : Box (Below C0 w2 (w2.alloc (.cells #[strv x, .slice none 0 0] 25))) := ⟨(Below.refl _ _).alloc (by omega) _⟩
    have hRC : R0 < C0 := by rw [← hC0]; exact lt_blk HXb.out
    have hgC : g < C0 := by omega
    go_upto_region 5 with fail
    clear hC0
    generalize w2.alloc (.cells #[strv x, .slice none 0 0] 25) = w4 at HXc HBc ⊢
    clear l0
    go_upto_block 0 with fail
    go_wp2
    go_loopw [6, 7, 8, 3] (fun s6 _ _ s3 wr => ∃ (j : Nat) (z : List Int) (no : Option Addr) (nc : Nat), j + 1 ≤ N ∧ s6 = .int .i64 ((j + 1 : Nat) : Int) ∧ s3 = .int .i64 0 ∧ z.length = j ∧ Box (numsV (r.take j) = some z) ∧ Box (wr.heap[C0]? = some (.cells #[strv x, .slice no j nc] 25 (0, 0))) ∧ Box (wr.ownsRow (C0 + 1) 3 1 (.slice no j nc) j (ints z)) ∧ Box (Below C0 w2 wr)) (fun s6 _ _ _ _ => N - (intOf s6).toNat)
    case atStart => exact ⟨0, [], none, 0, by omega, rfl, rfl, rfl, ⟨by simp [numsV]⟩, HXc, ⟨World.ownsRow_nil _ _ _ _⟩, HBc⟩
    case round =>
      clear HXc HBc
      obtain ⟨j, z, no, nc, hjm, rfl, rfl, hzj, HNV, HXC, HOW, HBR⟩ := hrel
      have HXR : Box (wr.heap[R0]? = some (.cells #[.string ⟨#[]⟩, .slice none 0 0] 25 (0, 0))) := ⟨by rw [HBR.out.block R0 hRC]; exact HXb.out⟩
      have HBw : Box (Below R0 w wr) := ⟨HBb.out.trans (HBR.out.mono (by omega))⟩
      have hCl := lt_blk HXC.out
      obtain ⟨i, hij⟩ : ∃ i, j + 1 = i := ⟨_, rfl⟩
      have HIJ := Box.mk hij
      have hi1 : 1 ≤ i := by omega
      have hjle : j ≤ 100000 := by omega
      rw [hij] at hjm
      rw [hij]
      by_cases hjl : i < N
      · have hji : (i : Int) < N := by omega
        have hjr : j < r.length := by have := HNR.out; simp only [List.length_cons] at this; omega
        have l1 := (HBR.out.cell (p := ⟨g, off + (j + 1), none⟩) hgC).trans (HLC.out j hjr)
        rw [hij] at l1
        have HNB := rnumber_any ⟨r[j].toArray⟩ (by rw [bts_size]; have := HXL.out.2 _ (List.getElem_mem hjr); simp only [bts_mk] at *; omega)
        cases hny : numV r[j] with
        | none =>
          have e : numT (numV (⟨r[j].toArray⟩ : ByteArray).data.toList) = .tuple #[.int .i64 0, .bool false] := by rw [bts_mk, hny]; rfl
          rw [e] at HNB
          have HNB := Box.mk HNB
          have HE : Box (pv = none) := ⟨by
            rw [HPV.out]
            rw [numsV_bad (List.getElem_mem hjr) hny]⟩
          have r0 : World.cell? wr ⟨R0, 0, none⟩ = some (.string ⟨#[]⟩) := (cell_blk HXR.out 0).trans rfl
          have r1 : World.cell? wr ⟨R0, 1, none⟩ = some (.slice none 0 0) := (cell_blk HXR.out 1).trans rfl
          have f0 : World.frozen? wr ⟨R0, 0, none⟩ = false := free_blk HXR.out 0
          have f1 : World.frozen? wr ⟨R0, 1, none⟩ = false := free_blk HXR.out 1
          clear hny e hij
          generalize r[j] = y at l1 HNB
          go_wp2_with (go_at_call 12; (with_reducible refine (HNB.out _).mono ?_); rintro e w5 ⟨rfl, rfl⟩)
          obtain ⟨q0, q1, hbw⟩ := res_world HXR.out HBw.out (a := .string ⟨#[]⟩) (b := .slice none 0 0)
          have HBW := Box.mk hbw
          clear hbw r0 r1 f0 f1
          refine bodyPost_ret (v := .tuple #[.agg #[.string ⟨#[]⟩, .slice none 0 0], .int .i64 9]) (by simp [results, Tryd.results10, go_sem, q0, q1]) rfl ⟨by rw [HE.out]; rfl, HBW.out⟩
        | some k =>
          have e : numT (numV (⟨r[j].toArray⟩ : ByteArray).data.toList) = .tuple #[.int .i64 k, .bool true] := by rw [bts_mk, hny]; rfl
          rw [e] at HNB
          have HNB := Box.mk HNB
          have HNV2 : Box (numsV (r.take (j + 1)) = some (z ++ [(k : Int)])) := ⟨by rw [List.take_succ_eq_append_getElem hjr]; exact numsV_snoc HNV.out hny⟩
          have c1 : World.cell? wr ⟨C0, 1, none⟩ = some (.slice no j nc) := (cell_blk HXC.out 1).trans rfl
          have HNO := Box.mk (fun g (hg : (Value.slice no j nc).ownBlock = some g) => ownsRow_lt HOW.out hg)
          clear hny e hij
          generalize r[j] = y at l1 HNB
          go_wp2_with (first
            | (go_at_call 12; (with_reducible refine (HNB.out _).mono ?_); rintro e w5 ⟨rfl, rfl⟩)
            | (at_builtin; refine wpList_append_lies _ rfl (.tmp 37) (.tmp 39) 23 rfl (C0 + 1) 3 ii (.int .i64 0) 1 8 Tryd.underlying23 hi hz0 hz1 hz2 rfl (by decide) (.slice no j nc) j (ints z) rfl (HOW.out.alloc _) ⟨wr.heap.size, 0, none⟩ 1 1 [.int .i64 k] rfl rfl (World.news_of_block (cs := #[.int .i64 k]) (blk_new _ _)) ?h1 (by omega) ?b1 ?b2 ?b3 _ rfl ?next))
          case h1 => simp [Value.oneCell']
          case b1 => unfold maxLen; omega
          case b2 => omega
          case b3 => simp; omega
          case next =>
            intro g3 c3 w3 ho3 hg3 _ _
            have HO3 := Box.mk ho3
            have hf3 : Fr (fun b => (Value.slice no j nc).ownBlock = some b) wr w3 := Fr.grown ((Fr.refl _ wr).alloc _) hg3 (fun b e => .inl e)
            have hb3 := hf3.blk HXC.out (fun e => by have := (HNO.out _ e).1; omega)
            have q1 : World.cell? w3 ⟨C0, 1, none⟩ = some (.slice no j nc) := (cell_blk hb3 1).trans rfl
            have q2 : World.frozen? w3 ⟨C0, 1, none⟩ = false := free_blk hb3 1
            have HB3 := Box.mk hb3
            have HF3 := Box.mk hf3
            clear ho3 hg3 hf3 hb3 c1
            have HXC2 : Box ((w3.setCell ⟨C0, 1, none⟩ (.slice (some ⟨g3, 0, none⟩) (j + 1) c3)).heap[C0]? = some (.cells #[strv x, .slice (some ⟨g3, 0, none⟩) (j + 1) c3] 25 (0, 0))) := ⟨by
              have := blk_set (i := 1) HB3.out (.slice (some ⟨g3, 0, none⟩) (j + 1) c3)
              simpa using this⟩
            have hfs : Fr (fun b => b = C0) w3 (w3.setCell ⟨C0, 1, none⟩ (.slice (some ⟨g3, 0, none⟩) (j + 1) c3)) := Fr.setCell (F := fun b => b = C0) (Fr.refl _ w3) (p := ⟨C0, 1, none⟩) (.inl rfl) _
            have HO4 : Box ((w3.setCell ⟨C0, 1, none⟩ (.slice (some ⟨g3, 0, none⟩) (j + 1) c3)).ownsRow (C0 + 1) 3 1 (.slice (some ⟨g3, 0, none⟩) (j + 1) c3) (j + 1) (ints (z ++ [(k : Int)]))) := ⟨by
              have e : ints (z ++ [(k : Int)]) = ints z ++ [.int .i64 (k : Int)] := by simp
              rw [e]
              exact ownsRow_fr HO3.out (fun b hb => hfs.block b (ownsRow_lt HO3.out hb).2 (fun e => by have := (ownsRow_lt HO3.out hb).1; omega))⟩
            have HB5 : Box (Below C0 w2 (w3.setCell ⟨C0, 1, none⟩ (.slice (some ⟨g3, 0, none⟩) (j + 1) c3))) := ⟨(HBR.out.trans (HF3.out.below (by omega) (fun b _ e => by have := (HNO.out b e).1; omega))).trans (hfs.below (by have := HF3.out.size; omega) (fun b _ e => by omega))⟩
            have hzj2 : (z ++ [(k : Int)]).length = j + 1 := by simp [hzj]
            have hii : Box ((i : Int) + 1 = ((j + 1 + 1 : Nat) : Int) ∧ j + 1 + 1 ≤ N) := ⟨by have := HIJ.out; omega⟩
            clear hfs
            go_wp2
            clear q1 q2
            go_roundw
            case rel => exact ⟨j + 1, z ++ [(k : Int)], some ⟨g3, 0, none⟩, c3, hii.out.2, by rw [hii.out.1], rfl, hzj2, HNV2, HXC2, HO4, HB5⟩
            case measure => simp [intOf] <;> omega
      · have hji : ¬ (i : Int) < N := by omega
        have hjr : j = r.length := by have := HNR.out; simp only [List.length_cons] at this; have := HIJ.out; omega
        have HNV2 : Box (numsV r = some z) := ⟨by have := HNV.out; rwa [List.take_of_length_le (by omega)] at this⟩
        have HPE : Box (pv = if mayB x z = true then some (x, z) else none) := ⟨by rw [HPV.out]; rw [HNV2.out]⟩
        have HNA : Box (NumsAt wr no j z) := ⟨hzj, by omega, fun h0 => by
          obtain ⟨b, off, e, hb, hc⟩ := VRow.own HOW.out (by simpa [hzj] using h0)
          exact ⟨b, off, e, hb, fun i hi => by have := hc i (by simpa using hi); simpa using this⟩⟩
        have HMY := Box.mk (rmay_any x no j nc z wr HNA.out)
        have c0 : World.cell? wr ⟨C0, 0, none⟩ = some (strv x) := (cell_blk HXC.out 0).trans rfl
        have c1 : World.cell? wr ⟨C0, 1, none⟩ = some (.slice no j nc) := (cell_blk HXC.out 1).trans rfl
        clear hjr hij
        cases hmb : mayB x z with
        | false =>
          rw [hmb] at HMY HPE
          have HE : Box (pv = none) := ⟨HPE.out⟩
          clear HPE HNV2 HNA HPV hmb
          go_upto_region 13 with (go_at_call 22; (with_reducible refine HMY.out.mono ?_); rintro e w5 ⟨rfl, hb⟩; have HB5 := Box.mk hb; have HX5 := Box.mk (show w5.heap[R0]? = some (.cells #[.string ⟨#[]⟩, .slice none 0 0] 25 (0, 0)) by rw [hb.block R0 (lt_blk HXR.out)]; exact HXR.out); clear hb)
          have r0 : World.cell? w5 ⟨R0, 0, none⟩ = some (.string ⟨#[]⟩) := (cell_blk HX5.out 0).trans rfl
          have r1 : World.cell? w5 ⟨R0, 1, none⟩ = some (.slice none 0 0) := (cell_blk HX5.out 1).trans rfl
          have f0 : World.frozen? w5 ⟨R0, 0, none⟩ = false := free_blk HX5.out 0
          have f1 : World.frozen? w5 ⟨R0, 1, none⟩ = false := free_blk HX5.out 1
          go_wp2
          obtain ⟨q0, q1, hbw⟩ := res_world HX5.out (HBw.out.trans (HB5.out.mono (by have := lt_blk HXR.out; omega))) (a := .string ⟨#[]⟩) (b := .slice none 0 0)
          have HBW := Box.mk hbw
          clear hbw r0 r1 f0 f1
          refine bodyPost_ret (v := .tuple #[.agg #[.string ⟨#[]⟩, .slice none 0 0], .int .i64 9]) (by simp [results, Tryd.results10, go_sem, q0, q1]) rfl ⟨by rw [HE.out]; rfl, HBW.out⟩
        | true =>
          rw [hmb] at HMY HPE
          have HE : Box (pv = some (x, z)) := ⟨HPE.out⟩
          clear HPE HNV2 HNA HPV hmb
          go_upto_region 14 with (go_at_call 22; (with_reducible refine HMY.out.mono ?_); rintro e w5 ⟨rfl, hb⟩; have HB5 := Box.mk hb; have HX5 := Box.mk (show w5.heap[R0]? = some (.cells #[.string ⟨#[]⟩, .slice none 0 0] 25 (0, 0)) by rw [hb.block R0 (lt_blk HXR.out)]; exact HXR.out); have HXC5 := Box.mk (show w5.heap[C0]? = some (.cells #[strv x, .slice no j nc] 25 (0, 0)) by rw [hb.block C0 (lt_blk HXC.out)]; exact HXC.out); clear hb)
          have r0 : World.cell? w5 ⟨R0, 0, none⟩ = some (.string ⟨#[]⟩) := (cell_blk HX5.out 0).trans rfl
          have r1 : World.cell? w5 ⟨R0, 1, none⟩ = some (.slice none 0 0) := (cell_blk HX5.out 1).trans rfl
          have f0 : World.frozen? w5 ⟨R0, 0, none⟩ = false := free_blk HX5.out 0
          have f1 : World.frozen? w5 ⟨R0, 1, none⟩ = false := free_blk HX5.out 1
          have d0 : World.cell? w5 ⟨C0, 0, none⟩ = some (strv x) := (cell_blk HXC5.out 0).trans rfl
          have d1 : World.cell? w5 ⟨C0, 1, none⟩ = some (.slice no j nc) := (cell_blk HXC5.out 1).trans rfl
          go_wp2
          obtain ⟨q0, q1, hbw⟩ := res_world HX5.out (HBw.out.trans (HB5.out.mono (by have := lt_blk HXR.out; omega))) (a := strv x) (b := .slice no j nc)
          have HBW := Box.mk hbw
          have HOF : Box (((w5.setCell ⟨R0, 0, none⟩ (strv x)).setCell ⟨R0, 1, none⟩ (.slice no j nc)).ownsRow R0 3 1 (.slice no j nc) j (ints z)) := ⟨by
            refine ownsRow_mono (ownsRow_fr HOW.out (fun b hb => ?_)) (by omega : R0 ≤ C0 + 1)
            have hb1 := ownsRow_lt HOW.out hb
            have hne : b ≠ R0 := by omega
            rw [blk_set_ne _ hne, blk_set_ne _ hne, HB5.out.block b hb1.2]⟩
          clear hbw r0 r1 f0 f1 d0 d1
          refine bodyPost_ret (v := .tuple #[.agg #[strv x, .slice no j nc], .int .i64 0]) (by simp [results, Tryd.results10, go_sem, q0, q1]) rfl ⟨?_, HBW.out⟩
          rw [HE.out]
          exact ⟨no, nc, by simp only [hzj], by simp only [hzj]; exact HOF.out⟩

end Go.Proofs.YtanlodaimbocoaaDoor
