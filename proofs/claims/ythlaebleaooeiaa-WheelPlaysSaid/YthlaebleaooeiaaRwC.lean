/-
  The document's wheel: the walk of 'Set'.
-/
import Derived.Test.YthlaebleaooeiaaRwB
import Derived.Deep.DeepCutAuto
import Derived.Deep.CutBlock
namespace Go.Proofs.Ythlaebleaooeiaa
open Go.RowKit

/-- The two slices of a row, or of nil. -/
theorem TRow.slices {w : World} {G : Nat → Prop} {p : Nat} {a : Option Addr} {c : Nat} {L : List Tm} (h : TRow w G p a c L) (hlt : ∀ k, G k → k < w.heap.size) {P : Program} {t e : TypeId} {i : TypeInfo} (ht : P.underlying t = some (.slice e)) (hi : P.info? e = some i) (hz : i.size = 2) {k : Nat} (hk : k ≤ L.length) :
    ∃ a1 a2, (∀ w, (Instr.slice t (.slice a L.length c) none (some (.int .i64 (k : Int))) none).run P w = .ok (.slice a1 k c) w) ∧ (∀ w, (Instr.slice t (.slice a L.length c) (some (.int .i64 (k : Int))) none none).run P w = .ok (.slice a2 (L.length - k) (c - k)) w) ∧ SrcAt w a1 k (tcells (L.take k)) ∧ SrcAt w a2 (L.length - k) (tcells (L.drop k)) := by
  have he : P.elem t = e := by unfold Program.elem; rw [ht]
  have ht' : P.underlying t = some (.slice (P.elem t)) := by rw [he]; exact ht
  have hs : ∀ w, (sizeOf (P.elem t)).run P w = .ok 2 w := fun w => by rw [he]; simp [sizeOf, typeInfo, hi, hz]
  have hlc : L.length ≤ c := by
    rcases h with ⟨_, rfl, _⟩ | ⟨_, _, _, _, _, h, _⟩
    · simp
    · exact h
  have r1 : ∀ w, (Instr.slice t (.slice a L.length c) none (some (.int .i64 (k : Int))) none).run P w = .ok (sliced a 0 k c 2) w := fun w => by
    rw [run_slice_h w t a L.length c ht' .i64 k (by omega) (by omega), hs]
    simp [Result.andThen]
  have r2 : ∀ w, (Instr.slice t (.slice a L.length c) (some (.int .i64 (k : Int))) none none).run P w = .ok (sliced a k L.length c 2) w := fun w => by
    rw [run_slice_l w t a L.length c ht' .i64 k (by omega) (by omega), hs]
    simp [Result.andThen]
  refine ⟨_, _, r1, r2, ?_, ?_⟩
  · rcases h with ⟨rfl, rfl, rfl⟩ | ⟨g, off, rfl, hg, _, _, _, hc⟩
    · simp only [List.length_nil, Nat.le_zero] at hk
      subst hk
      exact .inl ⟨rfl, rfl, rfl⟩
    · have e : (if c = 0 then some (⟨g, off, none⟩ : Addr) else (some (⟨g, off, none⟩ : Addr)).map (·.add (0 * 2))) = some ⟨g, off, none⟩ := by
        split
        · rfl
        · simp [addr_add]
      rw [e]
      exact src_take (hlt g hg) hc
  · rcases h with ⟨rfl, rfl, rfl⟩ | ⟨g, off, rfl, hg, _, _, _, hc⟩
    · simp only [List.length_nil, Nat.le_zero] at hk
      subst hk
      exact .inl ⟨rfl, rfl, rfl⟩
    · have e : ∃ A, (if c = k then some (⟨g, off, none⟩ : Addr) else (some (⟨g, off, none⟩ : Addr)).map (·.add (k * 2))) = some A ∧ (k < L.length → A = ⟨g, off + k * 2, none⟩) := by
        split
        · exact ⟨_, rfl, fun h => by omega⟩
        · exact ⟨_, rfl, fun _ => addr_add _ _ _⟩
      obtain ⟨A, hA, hA2⟩ := e
      rw [hA]
      exact src_drop (hlt g hg) hk hc A hA2

/-- What Set leaves. -/
def SetR (L L' : List Tm) (x : Int) (t : Nat) : Prop := TSort L' ∧ (∀ m, m ∈ L' ↔ m = ⟨x, t⟩ ∨ (m ∈ L ∧ m.id ≠ x)) ∧ L'.length ≤ L.length + 1
set_option maxHeartbeats 8000000 in
set_option maxRecDepth 100000 in
theorem rwset_core (p : Nat) (L0 : List Tm) (now : Nat) (G : Nat → Prop) (id : Int) (at' : Nat) (W : World) (h : RW W p L0 now G) (hlen : L0.length ≤ 1000000) (hs : TSort L0) (hu : TUniq L0) (h0 : 0 ≤ id) (h1 : id ≤ 999) (h2 : now < at') (h3 : at' < 4611686018427387904) :
    Calls Try.prog 16 #[.pointer (some ⟨p, 0, none⟩), .int .i64 id, .int .u64 at'] W fun e w' => e = .returned (.int .i64 0) ∧ ∃ L', SetR L0 L' id at' ∧ RWPost W p L' now G w' := by
  have HCAN := Box.mk (rwcancel_any p L0 now G id W h hlen hs hu)
  obtain ⟨a0, c0, hb0, -⟩ := h.at'
  have hcn := cell_blk hb0 1
  simp only [List.getElem?_toArray, List.getElem?_cons_succ, List.getElem?_cons_zero] at hcn
  have HLEN := Box.mk hlen
  clear h hs hu hb0 hlen
  have g0 : ¬ id < 0 := by omega
  have g1 : ¬ id > 999 := by omega
  have g2 : ¬ (at' : Int) ≤ (now : Int) := by omega
  have g3 : ¬ (at' : Int) ≥ 4611686018427387904 := by omega
  go_enter Try.func16, Try.ntmps16
  go_upto_block 0 with (go_at_call 17; (with_reducible refine HCAN.out.mono ?_); rintro e w ⟨L, cc, rfl, hcan, hpost⟩; have HC1 := Box.mk (And.intro hcan hpost); clear hcan hpost)
  obtain ⟨G1, hrw, hfr1, hgr1⟩ := HC1.out.2
  have HCR := HC1.out.1
  have HCN := Box.mk HCR
  have HPOST := Box.mk (And.intro hfr1 hgr1)
  clear HCR HC1 hfr1 hgr1 hcn HCAN
  have H := Box.mk hrw
  obtain ⟨a, c, hb, hr⟩ := hrw.at'
  have hc0 := cell_blk hb 0
  have hpl := lt_blk hb
  have HF0 := Lib.hid (free_blk hb 0)
  simp only [List.getElem?_toArray, List.getElem?_cons_zero] at hc0
  obtain ⟨i0, hi, hz0, hz1, hz2⟩ := info_parts Try.infoTm
  have HROW := Box.mk hr
  have HSL := Box.mk (fun k hk => hr.slices H.out.lt Try.underlying46 hi hz1 (k := k) hk)
  have HLC : Box (L.length ≤ c ∧ c ≤ 9223372036854775807) := ⟨by
    rcases hr with ⟨_, e, e2⟩ | ⟨_, _, _, _, _, h1, h2, _⟩
    · subst e; subst e2; exact ⟨Nat.le_refl _, by decide⟩
    · exact ⟨h1, h2⟩⟩
  obtain ⟨n, hn⟩ : ∃ n, L.length = n := ⟨_, rfl⟩
  have HN := Box.mk hn
  have HBD : Box (n ≤ 1000000 ∧ n ≤ c ∧ c ≤ 9223372036854775807) := ⟨by have := HLEN.out; have := HCN.out.2.2.1; have := HLC.out; omega⟩
  have hn63 : n ≤ 1000000 := HBD.out.1
  rw [hn] at hc0 HSL
  have HP0 := Lib.hid hc0
  clear hrw hb hr hn HLC
  have HAT : Box (∀ k, k ≤ L.length → (∀ j (hj : j < L.length), j < k → L[j].lt ⟨id, at'⟩) → (∀ hl : k < L.length, ¬ (L[k]'hl).lt ⟨id, at'⟩) → SetR L0 (L.take k ++ [⟨id, at'⟩] ++ L.drop k) id at') := ⟨fun k hk e1 e2 => by
    have hx := HCN.out
    obtain ⟨f1, f2⟩ := tput_sort hx.1 (Tm.mk id at') hk e1 e2 (fun x hm => ((hx.2.1 x).1 hm).2)
    refine ⟨f1, fun m => ?_, ?_⟩
    · rw [f2, hx.2.1]
    · have := hx.2.2.1
      simp only [List.length_append, List.length_take, List.length_drop, List.length_cons, List.length_nil]; omega⟩
  go_cut [7] (fun s7 wx => ∃ k : Nat, k ≤ n ∧ s7 = .int .i64 k ∧ wx = w ∧ Box (SetR L0 (L.take k ++ [⟨id, at'⟩] ++ L.drop k) id at'))
  case first =>
    go_wp2_with fail
    go_loop [7] (fun i => ∃ k : Nat, k ≤ n ∧ i = .int .i64 k ∧ Box (∀ j (hj : j < L.length), j < k → L[j].lt ⟨id, at'⟩)) (fun i => n - (intOf i).toNat)
    case atStart => exact ⟨0, Nat.zero_le _, rfl, ⟨fun j _ h => by omega⟩⟩
    case round =>
      obtain ⟨k, hk, rfl, HX⟩ := hrel
      by_cases hlt : k < n
      · have hlL : k < L.length := by rw [HN.out]; exact hlt
        have hki : (k : Int) < n := by omega
        have hk0 : (0 : Int) ≤ k := by omega
        obtain ⟨g, off, hag, _, _, _, _, hcell⟩ : ∃ g off, a = some ⟨g, off, none⟩ ∧ G1 g ∧ g ≠ p ∧ L.length ≤ c ∧ c ≤ 9223372036854775807 ∧ ∀ j u, (tcells L)[j]? = some u → w.cell? ⟨g, off + j, none⟩ = some u := by
          rcases HROW.out with ⟨_, e, _⟩ | h
          · rw [e] at hlL; simp at hlL
          · exact h
        rw [hag] at hc0
        have d0 := hcell _ _ (tcells_get hlL).1
        have d1 := hcell _ _ (tcells_get hlL).2
        rw [← Nat.add_assoc] at d1
        have HY : Box (L[k].lt ⟨id, at'⟩ → ∀ j (hj : j < L.length), j < k + 1 → L[j].lt ⟨id, at'⟩) := ⟨fun h j hj hjk => by
          by_cases e : j = k
          · subst e; exact h
          · exact HX.out j hj (by omega)⟩
        have HE : Box (¬ L[k].lt ⟨id, at'⟩ → SetR L0 (L.take k ++ [⟨id, at'⟩] ++ L.drop k) id at') := ⟨fun h => HAT.out k (by omega) HX.out (fun _ => h)⟩
        generalize L[k] = m at d0 d1 HY HE
        obtain ⟨y, z⟩ := m
        simp only [Tm.lt] at HY HE
        clear hcell hlL HX hag g0 g1 g2 g3 h0 h1 h2 h3
        by_cases e1 : z < at'
        · have f1 : (z : Int) < (at' : Int) := by omega
          have HZ := Box.mk (HY.out (.inl e1))
          clear HY HE e1
          go_wp2
          go_round
          case rel => exact ⟨k + 1, by omega, by go_num, HZ⟩
          case measure => simp [intOf]; omega
        · have f1 : ¬ (z : Int) < (at' : Int) := by omega
          by_cases e2 : z = at'
          · have f2 : ((z : Int) == (at' : Int)) = true := by simp [e2]
            by_cases e3 : y < id
            · have HZ := Box.mk (HY.out (.inr ⟨e2, e3⟩))
              clear HY HE e1 e2
              go_wp2
              go_round
              case rel => exact ⟨k + 1, by omega, by go_num, HZ⟩
              case measure => simp [intOf]; omega
            · have HZ := Box.mk (HE.out (by omega))
              clear HY HE e1 e2
              go_wp2
              go_meet
              exact ⟨k, hk, rfl, rfl, HZ⟩
          · have f2 : ((z : Int) == (at' : Int)) = false := beq_eq_false_iff_ne.2 (by omega)
            have HZ := Box.mk (HE.out (by omega))
            clear HY HE e1 e2
            go_wp2
            go_meet
            exact ⟨k, hk, rfl, rfl, HZ⟩
      · have hki : ¬ (k : Int) < n := by omega
        have HZ : Box (SetR L0 (L.take k ++ [⟨id, at'⟩] ++ L.drop k) id at') := ⟨HAT.out k (by have := HN.out; omega) HX.out (fun hl => by have := HN.out; omega)⟩
        go_wp2
        go_meet
        exact ⟨k, hk, rfl, rfl, HZ⟩
  case rest =>
    obtain ⟨k, hk, rfl, rfl, HY⟩ := hcut
    rename World => w
    have HWL : Box ((tcells (L.take k)).length = k * 2) := ⟨by rw [tcells_len, List.length_take, HN.out]; omega⟩
    have HWD : Box ((tcells (L.drop k)).length = (n - k) * 2) := ⟨by rw [tcells_len, List.length_drop, HN.out]⟩
    have HL' : Box ((L.take k ++ [Tm.mk id at'] ++ L.drop k).length = n + 1 ∧ tcells (L.take k ++ [⟨id, at'⟩] ++ L.drop k) = tcells (L.take k) ++ [.int .i64 id, .int .u64 at'] ++ tcells (L.drop k)) := ⟨by
      constructor
      · simp only [List.length_append, List.length_take, List.length_drop, List.length_cons, List.length_nil, HN.out]; omega
      · rw [tcells_append, tcells_append]; rfl⟩
    obtain ⟨a1, a2, hs1, hs2, hsrc1, hsrc2⟩ := HSL.out k hk
    have HS1 := Box.mk hsrc1
    have HS2 := Box.mk hsrc2
    have hki : (k : Int) ≤ n := by omega
    clear hsrc1 hsrc2 HSL hn63 h0 h1 h2 h3 g0 g1 g2 g3
    go_upto_region 9 with fail
    go_region_law (first
        | (refine step_append_row _ rfl (.tmp 73) (.tmp 79) 46 rfl w.heap.size 72 i0 (.agg #[.int .i64 0, .int .u64 0]) 2 16 Try.underlying46 hi hz0 hz1 hz2 rfl (by decide) (.slice (some ⟨w.heap.size, 0, none⟩) 0 0) 0 [] (by simp [Act.eval, Act.put]) (ownA w 72 2) a1 k c (tcells (L.take k)) (by simp [Act.eval, Act.put]) HWL.out (HS1.out.later (belA w 72)) tcells_one (by have := HBD.out; unfold maxLen; omega) (by have := HBD.out; omega) (belA w 72).size k (by simp) (some (w.heap.size)) rfl ?_; intro b1 c1 w3 ho3 hg3 _; have HM2 := Lib.hid (Mid.of (xs := tcells (L.take k)) (by simpa using ho3) (belA w 72) hg3 (fun b e => by simp at e; omega)); have hp3 := (HM2.out.bel.cell (p := ⟨p, 0, none⟩) hpl).trans HP0.out; have hpl3 := Nat.lt_of_lt_of_le hpl HM2.out.bel.size; clear ho3 hg3)
        | (refine step_append_row _ rfl (.tmp 73) (.tmp 79) 46 rfl w.heap.size 72 i0 (.agg #[.int .i64 0, .int .u64 0]) 2 16 Try.underlying46 hi hz0 hz1 hz2 rfl (by decide) (.slice (some ⟨w.heap.size, 0, none⟩) 0 0) 0 [] (by simp [Act.eval, Act.put]) (ownB w 72 2 (.cells #[.int .i64 id, .int .u64 at'] 72)) a1 k c (tcells (L.take k)) (by simp [Act.eval, Act.put]) HWL.out (HS1.out.later (belB w 72 (.cells #[.int .i64 id, .int .u64 at'] 72))) tcells_one (by have := HBD.out; unfold maxLen; omega) (by have := HBD.out; omega) (belB w 72 (.cells #[.int .i64 id, .int .u64 at'] 72)).size k (by simp) (some (w.heap.size)) rfl ?_; intro b1 c1 w3 ho3 hg3 _; have HM2 := Lib.hid (Mid.of (xs := tcells (L.take k)) (by simpa using ho3) (belB w 72 (.cells #[.int .i64 id, .int .u64 at'] 72)) hg3 (fun b e => by simp at e; omega)); have hp3 := (HM2.out.bel.cell (p := ⟨p, 0, none⟩) hpl).trans HP0.out; have hpl3 := Nat.lt_of_lt_of_le hpl HM2.out.bel.size; have hblk := Lib.hid (grown_blk hg3 (rowB w 72 (.cells #[.int .i64 id, .int .u64 at'] 72)) (by simp)); clear ho3 hg3)
        | (refine step_append_row _ rfl (.tmp 73) (.tmp 79) 46 rfl w.heap.size 72 i0 (.agg #[.int .i64 0, .int .u64 0]) 2 16 Try.underlying46 hi hz0 hz1 hz2 rfl (by decide) (.slice (some ⟨w.heap.size + 1, 0, none⟩) 0 0) 0 [] (by simp [Act.eval, Act.put]) (ownC w 72 2 (.cells #[.int .i64 id, .int .u64 at'] 72)) a1 k c (tcells (L.take k)) (by simp [Act.eval, Act.put]) HWL.out (HS1.out.later (belC w 72 (.cells #[.int .i64 id, .int .u64 at'] 72))) tcells_one (by have := HBD.out; unfold maxLen; omega) (by have := HBD.out; omega) (belC w 72 (.cells #[.int .i64 id, .int .u64 at'] 72)).size k (by simp) (some (w.heap.size + 1)) rfl ?_; intro b1 c1 w3 ho3 hg3 _; have HM2 := Lib.hid (Mid.of (xs := tcells (L.take k)) (by simpa using ho3) (belC w 72 (.cells #[.int .i64 id, .int .u64 at'] 72)) hg3 (fun b e => by simp at e; omega)); have hp3 := (HM2.out.bel.cell (p := ⟨p, 0, none⟩) hpl).trans HP0.out; have hpl3 := Nat.lt_of_lt_of_le hpl HM2.out.bel.size; have hblk := Lib.hid (grown_blk hg3 (rowC w 72 (.cells #[.int .i64 id, .int .u64 at'] 72)) (by simp)); clear ho3 hg3)
        | (refine step_append_lies _ rfl (.tmp 80) (.tmp 84) 46 rfl w.heap.size 72 i0 (.agg #[.int .i64 0, .int .u64 0]) 2 16 Try.underlying46 hi hz0 hz1 hz2 rfl (by decide) (.slice b1 k c1) k (tcells (L.take k)) (by simp [Act.eval, Act.put]) (HM2.out.own.alloc _) ⟨w3.heap.size, 0, none⟩ 1 1 [.int .i64 id, .int .u64 at'] (by simp [Act.eval, Act.put]) rfl (World.news_of_block (cs := #[.int .i64 id, .int .u64 at']) (blk_new _ _)) (by simp [Value.oneCell']) (by have := HBD.out; omega) (by have := HBD.out; unfold maxLen; omega) (by have := HBD.out; omega) ((Nat.le_trans HM2.out.bel.size (by simp))) _ rfl ?_; intro g2 c2 w4 ho4 hg4 _ _; have HE := Lib.hid (HM2.out.fin rfl ((Below.refl _ _).alloc (Nat.le_refl _) _) ho4 hg4); have hp4 := (HE.out.bel.cell (p := ⟨p, 0, none⟩) hpl).trans HP0.out; have hpl4 := Nat.lt_of_lt_of_le hpl HE.out.bel.size; clear ho4 hg4)
        | (refine step_append_lies _ rfl (.tmp 80) (.tmp 84) 46 rfl w.heap.size 72 i0 (.agg #[.int .i64 0, .int .u64 0]) 2 16 Try.underlying46 hi hz0 hz1 hz2 rfl (by decide) (.slice b1 k c1) k (tcells (L.take k)) (by simp [Act.eval, Act.put]) HM2.out.own ⟨w.heap.size + 1, 0, none⟩ 1 1 [.int .i64 id, .int .u64 at'] (by simp [Act.eval, Act.put]) rfl (World.news_of_block (cs := #[.int .i64 id, .int .u64 at']) hblk.out) (by simp [Value.oneCell']) (by have := HBD.out; omega) (by have := HBD.out; unfold maxLen; omega) (by have := HBD.out; omega) (HM2.out.bel.size) _ rfl ?_; intro g2 c2 w4 ho4 hg4 _ _; have HE := Lib.hid (HM2.out.fin rfl (Below.refl _ _) ho4 hg4); have hp4 := (HE.out.bel.cell (p := ⟨p, 0, none⟩) hpl).trans HP0.out; have hpl4 := Nat.lt_of_lt_of_le hpl HE.out.bel.size; clear ho4 hg4)
        | (refine step_append_lies _ rfl (.tmp 80) (.tmp 84) 46 rfl w.heap.size 72 i0 (.agg #[.int .i64 0, .int .u64 0]) 2 16 Try.underlying46 hi hz0 hz1 hz2 rfl (by decide) (.slice b1 k c1) k (tcells (L.take k)) (by simp [Act.eval, Act.put]) HM2.out.own ⟨w.heap.size, 0, none⟩ 1 1 [.int .i64 id, .int .u64 at'] (by simp [Act.eval, Act.put]) rfl (World.news_of_block (cs := #[.int .i64 id, .int .u64 at']) hblk.out) (by simp [Value.oneCell']) (by have := HBD.out; omega) (by have := HBD.out; unfold maxLen; omega) (by have := HBD.out; omega) (HM2.out.bel.size) _ rfl ?_; intro g2 c2 w4 ho4 hg4 _ _; have HE := Lib.hid (HM2.out.fin rfl (Below.refl _ _) ho4 hg4); have hp4 := (HE.out.bel.cell (p := ⟨p, 0, none⟩) hpl).trans HP0.out; have hpl4 := Nat.lt_of_lt_of_le hpl HE.out.bel.size; clear ho4 hg4)
        | (refine step_append_row _ rfl (.tmp 85) (.tmp 91) 46 rfl w.heap.size 72 i0 (.agg #[.int .i64 0, .int .u64 0]) 2 16 Try.underlying46 hi hz0 hz1 hz2 rfl (by decide) (.slice (some ⟨g2, 0, none⟩) (k + 1) c2) (k + 1) (tcells (L.take k) ++ [.int .i64 id, .int .u64 at']) (by simp [Act.eval, Act.put]) HE.out.own a2 (n - k) (c - k) (tcells (L.drop k)) (by simp [Act.eval, Act.put]) HWD.out (HS2.out.later HE.out.bel) tcells_one (by have := HBD.out; unfold maxLen; omega) (by have := HBD.out; omega) HE.out.bel.size (n + 1) (by have := HBD.out; omega) _ rfl ?_; intro a3 c3 w5 ho5 hg5 _; have HZ := Lib.hid (HE.out.fin rfl (Below.refl _ _) ho5 hg5); have hp5 := (HZ.out.bel.cell (p := ⟨p, 0, none⟩) hpl).trans HP0.out; have hf5 := (HZ.out.bel.frozen (p := ⟨p, 0, none⟩) hpl).trans HF0.out; clear ho5 hg5))
    all_goals
      go_wp2
      go_ret
      exact ⟨rfl, _, HY.out, by
        obtain ⟨G', e1, e2, e3⟩ := rw_store H.out HL'.out.1 (by rw [HL'.out.2]; exact HZ.out)
        obtain ⟨e4, e5⟩ := HPOST.out
        exact ⟨G', e1, e4.trans' e2 (fun i hi hG => (e5 i hG).resolve_right (by omega)), e5.trans e3 e4.size⟩⟩

end Go.Proofs.Ythlaebleaooeiaa
