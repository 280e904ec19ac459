/-
  The document's 'Come' where its list is a row.
-/
import Derived.Test.YtelehfcjajipiaaRefR
import Derived.Deep.DeepCutAuto
import Derived.Deep.CutBlock
import Derived.Deep.RegionLawGrows
namespace Go.Proofs.Ytelehfcjajipiaa.readyPlays
open Go.RowKit Go.Proofs.Ytelehfcjajipiaa

set_option maxHeartbeats 8000000 in
set_option maxRecDepth 100000 in
theorem rcome_some (p : Nat) (L L' : List MemM) (G : Nat → Prop) (id : Int) (P : Nat) (w : World) (h : RQ w p L G) (a : Option Addr) (c : Nat) (hb : w.heap[p]? = some (.cells #[.slice a L.length c] 43 (0, 0))) (hr : ∃ g, a = some ⟨g, 0, none⟩ ∧ G g ∧ g ≠ p ∧ L.length ≤ c ∧ c ≤ 9223372036854775807 ∧ ∀ j u, (mcells L)[j]? = some u → w.cell? ⟨g, j, none⟩ = some u) (hlen : L.length ≤ 1000000) (hm : mayB id P = true) (hf : ¬ 0 ≤ idx id (ids L))
    (hat : ∀ i, i ≤ L.length → (∀ (j : Nat) (hj : j < L.length), j < i → L[j].prio ≤ P) → (∀ hl : i < L.length, (P : Int) < (L[i]'hl).prio) → L.take i ++ [⟨id, (P : Int)⟩] ++ L.drop i = L') :
    Calls Try.prog 14 #[.pointer (some ⟨p, 0, none⟩), .int .i64 id, .int .i64 P] w (RPost w p L' G 0) := by
  have H := Lib.hid h
  have HAT := Lib.hid hat
  have hc0 := cell_blk hb 0
  have hpl := lt_blk hb
  have HF0 := Lib.hid (free_blk hb 0)
  simp only [List.getElem?_toArray, List.getElem?_cons_zero] at hc0
  obtain ⟨q, hq⟩ : ∃ q, idx id (ids L) = q := ⟨_, rfl⟩
  have HQ := Lib.hid hq
  rw [hq] at hf
  obtain ⟨i0, hi, hz0, hz1, hz2⟩ := info_parts Try.infoMem
  obtain ⟨n, hn⟩ : ∃ n, L.length = n := ⟨_, rfl⟩
  have HN := Lib.hid hn
  rw [hn] at hlen hc0
  have HP0 := Lib.hid hc0
  clear h hat hb hq hn
  have HR := Lib.hid hr
  clear hr
  go_enter Try.func14, Try.ntmps14
  go_upto_block 0 with (first
    | (go_at_call 26; refine (rmay_any id P _).mono ?_; rintro e w1 ⟨rfl, rfl⟩; rw [hm])
    | (go_at_call 27; refine (rfind_any p L G id _ H.out).mono ?_; rintro e w1 ⟨rfl, rfl⟩; rw [HQ.out]))
  clear hm hf
  go_cut [7] (fun s7 wx => ∃ k : Nat, k ≤ n ∧ s7 = .int .i64 k ∧ wx = w ∧ Box (L.take k ++ [⟨id, (P : Int)⟩] ++ L.drop k = L'))
  case first =>
    go_wp2_with fail
    go_loop [7] (fun i => ∃ k : Nat, k ≤ n ∧ i = .int .i64 k ∧ Box (∀ (j : Nat) (hj : j < L.length), j < k → L[j].prio ≤ P)) (fun i => n - (intOf i).toNat)
    case atStart => exact ⟨0, Nat.zero_le _, rfl, ⟨fun j _ h => by omega⟩⟩
    case round =>
      obtain ⟨k, hk, rfl, HX⟩ := hrel
      by_cases hlt : k < n
      · have hlL : k < L.length := by rw [HN.out]; exact hlt
        obtain ⟨g, rfl, hGg, _, hlc, hcm, hcell⟩ := HR.out
        · have d1 := hcell _ _ (mcells_get hlL).2
          clear hcell hlc hcm
          by_cases hp : L[k].prio ≤ P
          · have HY : Box (∀ (j : Nat) (hj : j < L.length), j < k + 1 → L[j].prio ≤ P) := ⟨fun j hj hjk => by
              by_cases e : j = k
              · subst e; exact hp
              · exact HX.out j hj (by omega)⟩
            generalize L[k].prio = y at d1 hp
            clear hlL
            go_wp2
            go_round
            case rel => exact ⟨k + 1, by omega, by go_num, HY⟩
            case measure => simp [intOf]; omega
          · have HY : Box (L.take k ++ [⟨id, (P : Int)⟩] ++ L.drop k = L') := ⟨HAT.out k (by omega) HX.out (fun _ => by omega)⟩
            generalize L[k].prio = y at d1 hp
            clear hlL
            go_wp2
            go_meet
            exact ⟨k, hk, rfl, rfl, HY⟩
      · have HY : Box (L.take k ++ [⟨id, (P : Int)⟩] ++ L.drop k = L') := ⟨HAT.out k (by have := HN.out; omega) HX.out (fun hl => by have := HN.out; omega)⟩
        go_wp2
        go_meet
        exact ⟨k, hk, rfl, rfl, HY⟩
  case rest =>
    obtain ⟨k, hk, rfl, rfl, HY⟩ := hcut
    have HWL : Box ((mcells (L.take k)).length = k * 2) := ⟨by rw [mcells_len, List.length_take, HN.out]; omega⟩
    have HWD : Box ((mcells (L.drop k)).length = (n - k) * 2) := ⟨by rw [mcells_len, List.length_drop, HN.out]⟩
    have HL' : Box (L'.length = n + 1 ∧ mcells L' = mcells (L.take k) ++ [.int .i64 id, .int .i64 P] ++ mcells (L.drop k)) := ⟨by
      rw [← HY.out]
      constructor
      · simp only [List.length_append, List.length_take, List.length_drop, List.length_cons, List.length_nil, HN.out]; omega
      · rw [mcells_append, mcells_append]; rfl⟩
    have hki : (k : Int) ≤ n := by omega
    rename World => w
    obtain ⟨g, rfl, hGg, _, hlc, hcm, hcell⟩ := HR.out
    rw [HN.out] at hlc
    have hgl := H.out.lt g hGg
    have hkc : (k : Int) ≤ c := by omega
    have HS1 : Box (SrcAt w (some ⟨g, 0, none⟩) k (mcells (L.take k))) := ⟨src_take hgl hcell⟩
    obtain ⟨A, hA, hA2⟩ : ∃ A : Addr, (if c = k then some ⟨g, 0, none⟩ else some ⟨g, k * 2, none⟩ : Option Addr) = some A ∧ (k < n → A = ⟨g, k * 2, none⟩) := by
      by_cases e : c = k
      · exact ⟨_, if_pos e, fun h => by omega⟩
      · exact ⟨_, if_neg e, fun _ => rfl⟩
    have HS2 : Box (SrcAt w (some A) (n - k) (mcells (L.drop k))) := ⟨by rw [← HN.out]; exact src_drop hgl (by rw [HN.out]; exact hk) hcell A (by rw [HN.out]; exact hA2)⟩
    clear hcell hA2
    go_upto_region 8 with fail
    go_region_law (first
      | (refine step_append_row _ rfl (.tmp 38) (.tmp 44) 41 rfl w.heap.size 58 i0 (.agg #[.int .i64 0, .int .i64 0]) 2 16 Try.underlying41 hi hz0 hz1 hz2 rfl (by decide) (.slice (some ⟨w.heap.size, 0, none⟩) 0 0) 0 [] (by simp [Act.eval, Act.put]) (ownA w 58 2) (some ⟨g, 0, none⟩) k c (mcells (L.take k)) (by simp [Act.eval, Act.put]) HWL.out (HS1.out.later (belA w 58)) mcells_one (by unfold maxLen; omega) (by omega) (belA w 58).size k (by simp) (some (w.heap.size)) rfl ?_; intro a1 c1 w3 ho3 hg3 _; have HM2 := Lib.hid (Mid.of (xs := mcells (L.take k)) (by simpa using ho3) (belA w 58) hg3 (fun b e => by simp at e; omega)); have hp3 := (HM2.out.bel.cell (p := ⟨p, 0, none⟩) hpl).trans HP0.out; have hpl3 := Nat.lt_of_lt_of_le hpl HM2.out.bel.size; clear ho3 hg3)
      | (refine step_append_row _ rfl (.tmp 38) (.tmp 44) 41 rfl w.heap.size 58 i0 (.agg #[.int .i64 0, .int .i64 0]) 2 16 Try.underlying41 hi hz0 hz1 hz2 rfl (by decide) (.slice (some ⟨w.heap.size, 0, none⟩) 0 0) 0 [] (by simp [Act.eval, Act.put]) (ownB w 58 2 (.cells #[.int .i64 id, .int .i64 P] 58)) (some ⟨g, 0, none⟩) k c (mcells (L.take k)) (by simp [Act.eval, Act.put]) HWL.out (HS1.out.later (belB w 58 (.cells #[.int .i64 id, .int .i64 P] 58))) mcells_one (by unfold maxLen; omega) (by omega) (belB w 58 (.cells #[.int .i64 id, .int .i64 P] 58)).size k (by simp) (some (w.heap.size)) rfl ?_; intro a1 c1 w3 ho3 hg3 _; have HM2 := Lib.hid (Mid.of (xs := mcells (L.take k)) (by simpa using ho3) (belB w 58 (.cells #[.int .i64 id, .int .i64 P] 58)) hg3 (fun b e => by simp at e; omega)); have hp3 := (HM2.out.bel.cell (p := ⟨p, 0, none⟩) hpl).trans HP0.out; have hpl3 := Nat.lt_of_lt_of_le hpl HM2.out.bel.size; have hblk := Lib.hid (grown_blk hg3 (rowB w 58 (.cells #[.int .i64 id, .int .i64 P] 58)) (by simp)); clear ho3 hg3)
      | (refine step_append_row _ rfl (.tmp 38) (.tmp 44) 41 rfl w.heap.size 58 i0 (.agg #[.int .i64 0, .int .i64 0]) 2 16 Try.underlying41 hi hz0 hz1 hz2 rfl (by decide) (.slice (some ⟨w.heap.size + 1, 0, none⟩) 0 0) 0 [] (by simp [Act.eval, Act.put]) (ownC w 58 2 (.cells #[.int .i64 id, .int .i64 P] 58)) (some ⟨g, 0, none⟩) k c (mcells (L.take k)) (by simp [Act.eval, Act.put]) HWL.out (HS1.out.later (belC w 58 (.cells #[.int .i64 id, .int .i64 P] 58))) mcells_one (by unfold maxLen; omega) (by omega) (belC w 58 (.cells #[.int .i64 id, .int .i64 P] 58)).size k (by simp) (some (w.heap.size + 1)) rfl ?_; intro a1 c1 w3 ho3 hg3 _; have HM2 := Lib.hid (Mid.of (xs := mcells (L.take k)) (by simpa using ho3) (belC w 58 (.cells #[.int .i64 id, .int .i64 P] 58)) hg3 (fun b e => by simp at e; omega)); have hp3 := (HM2.out.bel.cell (p := ⟨p, 0, none⟩) hpl).trans HP0.out; have hpl3 := Nat.lt_of_lt_of_le hpl HM2.out.bel.size; have hblk := Lib.hid (grown_blk hg3 (rowC w 58 (.cells #[.int .i64 id, .int .i64 P] 58)) (by simp)); clear ho3 hg3)
      | (refine step_append_lies _ rfl (.tmp 45) (.tmp 49) 41 rfl w.heap.size 58 i0 (.agg #[.int .i64 0, .int .i64 0]) 2 16 Try.underlying41 hi hz0 hz1 hz2 rfl (by decide) (.slice a1 k c1) k (mcells (L.take k)) (by simp [Act.eval, Act.put]) (HM2.out.own.alloc _) ⟨w3.heap.size, 0, none⟩ 1 1 [.int .i64 id, .int .i64 P] (by simp [Act.eval, Act.put]) rfl (World.news_of_block (cs := #[.int .i64 id, .int .i64 P]) (blk_new _ _)) (by simp [Value.oneCell']) (by omega) (by unfold maxLen; omega) (by omega) ((Nat.le_trans HM2.out.bel.size (by simp))) _ rfl ?_; intro g2 c2 w4 ho4 hg4 _ _; have HE := Lib.hid (HM2.out.fin rfl ((Below.refl _ _).alloc (Nat.le_refl _) _) ho4 hg4); have hp4 := (HE.out.bel.cell (p := ⟨p, 0, none⟩) hpl).trans HP0.out; have hpl4 := Nat.lt_of_lt_of_le hpl HE.out.bel.size; clear ho4 hg4)
      | (refine step_append_lies _ rfl (.tmp 45) (.tmp 49) 41 rfl w.heap.size 58 i0 (.agg #[.int .i64 0, .int .i64 0]) 2 16 Try.underlying41 hi hz0 hz1 hz2 rfl (by decide) (.slice a1 k c1) k (mcells (L.take k)) (by simp [Act.eval, Act.put]) HM2.out.own ⟨w.heap.size + 1, 0, none⟩ 1 1 [.int .i64 id, .int .i64 P] (by simp [Act.eval, Act.put]) rfl (World.news_of_block (cs := #[.int .i64 id, .int .i64 P]) hblk.out) (by simp [Value.oneCell']) (by omega) (by unfold maxLen; omega) (by omega) (HM2.out.bel.size) _ rfl ?_; intro g2 c2 w4 ho4 hg4 _ _; have HE := Lib.hid (HM2.out.fin rfl (Below.refl _ _) ho4 hg4); have hp4 := (HE.out.bel.cell (p := ⟨p, 0, none⟩) hpl).trans HP0.out; have hpl4 := Nat.lt_of_lt_of_le hpl HE.out.bel.size; clear ho4 hg4)
      | (refine step_append_lies _ rfl (.tmp 45) (.tmp 49) 41 rfl w.heap.size 58 i0 (.agg #[.int .i64 0, .int .i64 0]) 2 16 Try.underlying41 hi hz0 hz1 hz2 rfl (by decide) (.slice a1 k c1) k (mcells (L.take k)) (by simp [Act.eval, Act.put]) HM2.out.own ⟨w.heap.size, 0, none⟩ 1 1 [.int .i64 id, .int .i64 P] (by simp [Act.eval, Act.put]) rfl (World.news_of_block (cs := #[.int .i64 id, .int .i64 P]) hblk.out) (by simp [Value.oneCell']) (by omega) (by unfold maxLen; omega) (by omega) (HM2.out.bel.size) _ rfl ?_; intro g2 c2 w4 ho4 hg4 _ _; have HE := Lib.hid (HM2.out.fin rfl (Below.refl _ _) ho4 hg4); have hp4 := (HE.out.bel.cell (p := ⟨p, 0, none⟩) hpl).trans HP0.out; have hpl4 := Nat.lt_of_lt_of_le hpl HE.out.bel.size; clear ho4 hg4)
      | (refine step_append_row _ rfl (.tmp 50) (.tmp 56) 41 rfl w.heap.size 58 i0 (.agg #[.int .i64 0, .int .i64 0]) 2 16 Try.underlying41 hi hz0 hz1 hz2 rfl (by decide) (.slice (some ⟨g2, 0, none⟩) (k + 1) c2) (k + 1) (mcells (L.take k) ++ [.int .i64 id, .int .i64 P]) (by simp [Act.eval, Act.put]) HE.out.own (some A) (n - k) (c - k) (mcells (L.drop k)) (by simp [Act.eval, Act.put, hA]) HWD.out (HS2.out.later HE.out.bel) mcells_one (by unfold maxLen; omega) (by omega) HE.out.bel.size (n + 1) (by omega) _ rfl ?_; intro a3 c3 w5 ho5 hg5 _; have HZ := Lib.hid (HE.out.fin rfl (Below.refl _ _) ho5 hg5); have hp5 := (HZ.out.bel.cell (p := ⟨p, 0, none⟩) hpl).trans HP0.out; have hf5 := (HZ.out.bel.frozen (p := ⟨p, 0, none⟩) hpl).trans HF0.out; clear ho5 hg5))
    all_goals
      go_wp2
      go_ret
      exact ⟨rfl, store_end H.out HL'.out.1 (by rw [HL'.out.2]; exact HZ.out)⟩
end Go.Proofs.Ytelehfcjajipiaa.readyPlays
