/-
  The document's book: Open.
-/
import Derived.Test.YtbodnmcaipakcaaLrB
import Derived.BigQuiet
namespace Go.Proofs.Ytbodnmcaipakcaa
open Go.RowKit

/-- What Open leaves. -/
def OpenR (L L' : List Tm) (x : Int) (t : Nat) : Prop := TSort L' ∧ ∀ m, m ∈ L' ↔ m = ⟨x, t⟩ ∨ m ∈ L
theorem findR_none {L : List Tm} {x : Int} (h : FindR L x (-1)) : ∀ m ∈ L, m.id ≠ x := by
  rcases h with ⟨k, e, _⟩ | ⟨_, h⟩
  · omega
  · exact h

set_option maxHeartbeats 8000000 in
set_option maxRecDepth 100000 in
theorem rbopen_core (p cost now : Nat) (L : List Tm) (fs : List FateM) (G0 : Nat → Prop) (id : Int) (at' : Nat) (W : World) (h : RK W p cost now L fs G0) (hlen : L.length < 64) (hs : TSort L) (hnf : FindR L id (-1)) (h0 : 0 ≤ id) (h1 : id ≤ 65535) (h2 : now + cost < at') (h3 : at' < 4611686018427387904) (hcn : cost ≤ 1000 ∧ now < 4611686018427387904) :
    Calls Try.prog 17 #[.pointer (some ⟨p, 0, none⟩), .int .i64 id, .int .u64 at'] W fun e w' => e = .returned (.int .i64 0) ∧ ∃ L', OpenR L L' id at' ∧ RKPost W p cost now L' fs G0 w' := by
  obtain ⟨a, c, fv, h, rfl⟩ := h
  have HQ := Box.mk (rbfind_any p cost now L fs a c fv id (-1) W h hnf)
  have HNF := Box.mk (findR_none hnf)
  have HSRT := Box.mk hs
  have HD := Box.mk (fun n => h.later (same_drawn n))
  have k0 := h.c0
  have k1 := h.c1
  have k2 := h.c2
  have g0 : ¬ id < 0 := by omega
  have g1 : ¬ id > 65535 := by omega
  have g2 : ¬ (at' : Int) ≤ (now : Int) + (cost : Int) := by omega
  have eB : ((4611686018427387904 : Int) ≤ (at' : Int)) = False := eq_false (by omega)
  have g4 : ¬ (64 : Int) ≤ (L.length : Int) := by omega
  have g5 : (now : Int) + (cost : Int) ≤ 4611686018427388904 := by omega
  clear h hnf hs
  go_enter Try.func17, Try.ntmps17
  go_upto_region 9 with (go_at_call 30; (with_reducible refine HQ.out.mono ?_); rintro e w1 ⟨rfl, rfl⟩)
  go_quiet (fail)
  go_upto_block 0 with fail
  have H := Box.mk (HD.out nq)
  have HFW : Box (Fr (fun _ => False) W (W.drewN nq)) := ⟨(Fr.refl _ W).drewN nq⟩
  generalize W.drewN nq = w at H HFW ⊢
  clear HQ HD k0 k1 k2 g0 g1 g2 g4 g5 eB
  have hb := H.out.blk
  have hr := H.out.row
  have hc0 := H.out.c2
  have hpl := lt_blk hb
  have HF0 := Lib.hid (H.out.free 2)
  obtain ⟨i0, hi, hz0, hz1, hz2⟩ := info_parts Try.infoTm
  have HROW := Box.mk hr
  have HSL := Box.mk (fun k hk => hr.slices (fun _ h => h.1) Try.underlying53 hi hz1 (k := k) hk)
  have HLC : Box (L.length ≤ c ∧ c ≤ 9223372036854775807) := ⟨by
    rcases hr with ⟨_, e, e2⟩ | ⟨_, _, _, _, _, h1, h2, _⟩
    · subst e; subst e2; exact ⟨Nat.le_refl _, by decide⟩
    · exact ⟨h1, h2⟩⟩
  obtain ⟨n, hn⟩ : ∃ n, L.length = n := ⟨_, rfl⟩
  have HN := Box.mk hn
  have HBD : Box (n ≤ 1000000 ∧ n ≤ c ∧ c ≤ 9223372036854775807) := ⟨by have := HLC.out; omega⟩
  have hn63 : n ≤ 1000000 := HBD.out.1
  rw [hn] at hc0 HSL
  have HP0 := Lib.hid hc0
  clear hb hr hn HLC hlen hcn
  have HAT : Box (∀ k, k ≤ L.length → (∀ j (hj : j < L.length), j < k → L[j].lt ⟨id, at'⟩) → (∀ hl : k < L.length, ¬ (L[k]'hl).lt ⟨id, at'⟩) → OpenR L (L.take k ++ [⟨id, at'⟩] ++ L.drop k) id at') := ⟨fun k hk e1 e2 => by
    obtain ⟨f1, f2⟩ := tput_sort HSRT.out (Tm.mk id at') hk e1 e2 HNF.out
    exact ⟨f1, f2⟩⟩
  go_cut [7] (fun s7 wx => ∃ k : Nat, k ≤ n ∧ s7 = .int .i64 k ∧ wx = w ∧ Box (OpenR L (L.take k ++ [⟨id, at'⟩] ++ L.drop k) id at'))
  case first =>
    go_wp2_with fail
    go_loop [7] (fun i => ∃ k : Nat, k ≤ n ∧ i = .int .i64 k ∧ Box (∀ j (hj : j < L.length), j < k → L[j].lt ⟨id, at'⟩)) (fun i => n - (intOf i).toNat)
    case atStart => exact ⟨0, Nat.zero_le _, rfl, ⟨fun j _ h => by omega⟩⟩
    case round =>
      obtain ⟨k, hk, rfl, HX⟩ := hrel
      by_cases hlt : k < n
      · have hlL : k < L.length := by rw [HN.out]; exact hlt
        have hki : (k : Int) < n := by omega
        have hk0 : (0 : Int) ≤ k := by omega
        obtain ⟨g, off, hag, hcell⟩ : ∃ g off, a = some ⟨g, off, none⟩ ∧ ∀ j u, (tcells L)[j]? = some u → w.cell? ⟨g, off + j, none⟩ = some u := by
          rcases HROW.out with ⟨_, e, _⟩ | ⟨g, off, e, _, _, _, _, h⟩
          · rw [e] at hlL; simp at hlL
          · exact ⟨g, off, e, h⟩
        rw [hag] at hc0
        have d0 := hcell _ _ (tcells_get hlL).1
        have d1 := hcell _ _ (tcells_get hlL).2
        rw [← Nat.add_assoc] at d1
        have HY : Box (L[k].lt ⟨id, at'⟩ → ∀ j (hj : j < L.length), j < k + 1 → L[j].lt ⟨id, at'⟩) := ⟨fun h j hj hjk => by
          by_cases e : j = k
          · subst e; exact h
          · exact HX.out j hj (by omega)⟩
        have HE : Box (¬ L[k].lt ⟨id, at'⟩ → OpenR L (L.take k ++ [⟨id, at'⟩] ++ L.drop k) id at') := ⟨fun h => HAT.out k (by omega) HX.out (fun _ => h)⟩
        generalize L[k] = m at d0 d1 HY HE
        obtain ⟨y, z⟩ := m
        simp only [Tm.lt] at HY HE
        clear hcell hlL HX hag h0 h1 h2 h3
        by_cases e1 : z < at'
        · have f1 : (z : Int) < (at' : Int) := by omega
          have HZ := Box.mk (HY.out (.inl e1))
          clear HY HE e1
          go_wp2
          go_round
          case rel => exact ⟨k + 1, by omega, by go_num, HZ⟩
          case measure => simp [intOf]; omega
        · have f1 : ¬ (z : Int) < (at' : Int) := by omega
          by_cases e2 : z = at'
          · have f2 : ((z : Int) == (at' : Int)) = true := by simp [e2]
            by_cases e3 : y < id
            · have HZ := Box.mk (HY.out (.inr ⟨e2, e3⟩))
              clear HY HE e1 e2
              go_wp2
              go_round
              case rel => exact ⟨k + 1, by omega, by go_num, HZ⟩
              case measure => simp [intOf]; omega
            · have HZ := Box.mk (HE.out (by omega))
              clear HY HE e1 e2
              go_wp2
              go_meet
              exact ⟨k, hk, rfl, rfl, HZ⟩
          · have f2 : ((z : Int) == (at' : Int)) = false := beq_eq_false_iff_ne.2 (by omega)
            have HZ := Box.mk (HE.out (by omega))
            clear HY HE e1 e2
            go_wp2
            go_meet
            exact ⟨k, hk, rfl, rfl, HZ⟩
      · have hki : ¬ (k : Int) < n := by omega
        have HZ : Box (OpenR L (L.take k ++ [⟨id, at'⟩] ++ L.drop k) id at') := ⟨HAT.out k (by have := HN.out; omega) HX.out (fun hl => by have := HN.out; omega)⟩
        go_wp2
        go_meet
        exact ⟨k, hk, rfl, rfl, HZ⟩
  case rest =>
    obtain ⟨k, hk, rfl, rfl, HY⟩ := hcut
    rename World => w
    have HWL : Box ((tcells (L.take k)).length = k * 2) := ⟨by rw [tcells_len, List.length_take, HN.out]; omega⟩
    have HWD : Box ((tcells (L.drop k)).length = (n - k) * 2) := ⟨by rw [tcells_len, List.length_drop, HN.out]⟩
    have HL' : Box ((L.take k ++ [Tm.mk id at'] ++ L.drop k).length = n + 1 ∧ tcells (L.take k ++ [⟨id, at'⟩] ++ L.drop k) = tcells (L.take k) ++ [.int .i64 id, .int .u64 at'] ++ tcells (L.drop k)) := ⟨by
      constructor
      · simp only [List.length_append, List.length_take, List.length_drop, List.length_cons, List.length_nil, HN.out]; omega
      · rw [tcells_append, tcells_append]; rfl⟩
    obtain ⟨a1, a2, hs1, hs2, hsrc1, hsrc2⟩ := HSL.out k hk
    have HS1 := Box.mk hsrc1
    have HS2 := Box.mk hsrc2
    have hki : (k : Int) ≤ n := by omega
    clear hsrc1 hsrc2 HSL hn63 h0 h1 h2 h3
    go_upto_region 14 with fail
    go_region_law (first
        | (refine step_append_row _ rfl (.tmp 83) (.tmp 89) 53 rfl w.heap.size 58 i0 (.agg #[.int .i64 0, .int .u64 0]) 2 16 Try.underlying53 hi hz0 hz1 hz2 rfl (by decide) (.slice (some ⟨w.heap.size, 0, none⟩) 0 0) 0 [] (by simp [Act.eval, Act.put]) (ownA w 58 2) a1 k c (tcells (L.take k)) (by simp [Act.eval, Act.put]) HWL.out (HS1.out.later (belA w 58)) tcells_one (by have := HBD.out; unfold maxLen; omega) (by have := HBD.out; omega) (belA w 58).size k (by simp) (some (w.heap.size)) rfl ?_; intro b1 c1 w3 ho3 hg3 _; have HM2 := Lib.hid (Mid.of (xs := tcells (L.take k)) (by simpa using ho3) (belA w 58) hg3 (fun b e => by simp at e; omega)); have hp3 := (HM2.out.bel.cell (p := ⟨p, 2, none⟩) hpl).trans HP0.out; have hpl3 := Nat.lt_of_lt_of_le hpl HM2.out.bel.size; clear ho3 hg3)
        | (refine step_append_row _ rfl (.tmp 83) (.tmp 89) 53 rfl w.heap.size 58 i0 (.agg #[.int .i64 0, .int .u64 0]) 2 16 Try.underlying53 hi hz0 hz1 hz2 rfl (by decide) (.slice (some ⟨w.heap.size, 0, none⟩) 0 0) 0 [] (by simp [Act.eval, Act.put]) (ownB w 58 2 (.cells #[.int .i64 id, .int .u64 at'] 58)) a1 k c (tcells (L.take k)) (by simp [Act.eval, Act.put]) HWL.out (HS1.out.later (belB w 58 (.cells #[.int .i64 id, .int .u64 at'] 58))) tcells_one (by have := HBD.out; unfold maxLen; omega) (by have := HBD.out; omega) (belB w 58 (.cells #[.int .i64 id, .int .u64 at'] 58)).size k (by simp) (some (w.heap.size)) rfl ?_; intro b1 c1 w3 ho3 hg3 _; have HM2 := Lib.hid (Mid.of (xs := tcells (L.take k)) (by simpa using ho3) (belB w 58 (.cells #[.int .i64 id, .int .u64 at'] 58)) hg3 (fun b e => by simp at e; omega)); have hp3 := (HM2.out.bel.cell (p := ⟨p, 2, none⟩) hpl).trans HP0.out; have hpl3 := Nat.lt_of_lt_of_le hpl HM2.out.bel.size; have hblk := Lib.hid (grown_blk hg3 (rowB w 58 (.cells #[.int .i64 id, .int .u64 at'] 58)) (by simp)); clear ho3 hg3)
        | (refine step_append_row _ rfl (.tmp 83) (.tmp 89) 53 rfl w.heap.size 58 i0 (.agg #[.int .i64 0, .int .u64 0]) 2 16 Try.underlying53 hi hz0 hz1 hz2 rfl (by decide) (.slice (some ⟨w.heap.size + 1, 0, none⟩) 0 0) 0 [] (by simp [Act.eval, Act.put]) (ownC w 58 2 (.cells #[.int .i64 id, .int .u64 at'] 58)) a1 k c (tcells (L.take k)) (by simp [Act.eval, Act.put]) HWL.out (HS1.out.later (belC w 58 (.cells #[.int .i64 id, .int .u64 at'] 58))) tcells_one (by have := HBD.out; unfold maxLen; omega) (by have := HBD.out; omega) (belC w 58 (.cells #[.int .i64 id, .int .u64 at'] 58)).size k (by simp) (some (w.heap.size + 1)) rfl ?_; intro b1 c1 w3 ho3 hg3 _; have HM2 := Lib.hid (Mid.of (xs := tcells (L.take k)) (by simpa using ho3) (belC w 58 (.cells #[.int .i64 id, .int .u64 at'] 58)) hg3 (fun b e => by simp at e; omega)); have hp3 := (HM2.out.bel.cell (p := ⟨p, 2, none⟩) hpl).trans HP0.out; have hpl3 := Nat.lt_of_lt_of_le hpl HM2.out.bel.size; have hblk := Lib.hid (grown_blk hg3 (rowC w 58 (.cells #[.int .i64 id, .int .u64 at'] 58)) (by simp)); clear ho3 hg3)
        | (refine step_append_lies _ rfl (.tmp 90) (.tmp 94) 53 rfl w.heap.size 58 i0 (.agg #[.int .i64 0, .int .u64 0]) 2 16 Try.underlying53 hi hz0 hz1 hz2 rfl (by decide) (.slice b1 k c1) k (tcells (L.take k)) (by simp [Act.eval, Act.put]) (HM2.out.own.alloc _) ⟨w3.heap.size, 0, none⟩ 1 1 [.int .i64 id, .int .u64 at'] (by simp [Act.eval, Act.put]) rfl (World.news_of_block (cs := #[.int .i64 id, .int .u64 at']) (blk_new _ _)) (by simp [Value.oneCell']) (by have := HBD.out; omega) (by have := HBD.out; unfold maxLen; omega) (by have := HBD.out; omega) ((Nat.le_trans HM2.out.bel.size (by simp))) _ rfl ?_; intro g2 c2 w4 ho4 hg4 _ _; have HE := Lib.hid (HM2.out.fin rfl ((Below.refl _ _).alloc (Nat.le_refl _) _) ho4 hg4); have hp4 := (HE.out.bel.cell (p := ⟨p, 2, none⟩) hpl).trans HP0.out; have hpl4 := Nat.lt_of_lt_of_le hpl HE.out.bel.size; clear ho4 hg4)
        | (refine step_append_lies _ rfl (.tmp 90) (.tmp 94) 53 rfl w.heap.size 58 i0 (.agg #[.int .i64 0, .int .u64 0]) 2 16 Try.underlying53 hi hz0 hz1 hz2 rfl (by decide) (.slice b1 k c1) k (tcells (L.take k)) (by simp [Act.eval, Act.put]) HM2.out.own ⟨w.heap.size + 1, 0, none⟩ 1 1 [.int .i64 id, .int .u64 at'] (by simp [Act.eval, Act.put]) rfl (World.news_of_block (cs := #[.int .i64 id, .int .u64 at']) hblk.out) (by simp [Value.oneCell']) (by have := HBD.out; omega) (by have := HBD.out; unfold maxLen; omega) (by have := HBD.out; omega) (HM2.out.bel.size) _ rfl ?_; intro g2 c2 w4 ho4 hg4 _ _; have HE := Lib.hid (HM2.out.fin rfl (Below.refl _ _) ho4 hg4); have hp4 := (HE.out.bel.cell (p := ⟨p, 2, none⟩) hpl).trans HP0.out; have hpl4 := Nat.lt_of_lt_of_le hpl HE.out.bel.size; clear ho4 hg4)
        | (refine step_append_lies _ rfl (.tmp 90) (.tmp 94) 53 rfl w.heap.size 58 i0 (.agg #[.int .i64 0, .int .u64 0]) 2 16 Try.underlying53 hi hz0 hz1 hz2 rfl (by decide) (.slice b1 k c1) k (tcells (L.take k)) (by simp [Act.eval, Act.put]) HM2.out.own ⟨w.heap.size, 0, none⟩ 1 1 [.int .i64 id, .int .u64 at'] (by simp [Act.eval, Act.put]) rfl (World.news_of_block (cs := #[.int .i64 id, .int .u64 at']) hblk.out) (by simp [Value.oneCell']) (by have := HBD.out; omega) (by have := HBD.out; unfold maxLen; omega) (by have := HBD.out; omega) (HM2.out.bel.size) _ rfl ?_; intro g2 c2 w4 ho4 hg4 _ _; have HE := Lib.hid (HM2.out.fin rfl (Below.refl _ _) ho4 hg4); have hp4 := (HE.out.bel.cell (p := ⟨p, 2, none⟩) hpl).trans HP0.out; have hpl4 := Nat.lt_of_lt_of_le hpl HE.out.bel.size; clear ho4 hg4)
        | (refine step_append_row _ rfl (.tmp 95) (.tmp 101) 53 rfl w.heap.size 58 i0 (.agg #[.int .i64 0, .int .u64 0]) 2 16 Try.underlying53 hi hz0 hz1 hz2 rfl (by decide) (.slice (some ⟨g2, 0, none⟩) (k + 1) c2) (k + 1) (tcells (L.take k) ++ [.int .i64 id, .int .u64 at']) (by simp [Act.eval, Act.put]) HE.out.own a2 (n - k) (c - k) (tcells (L.drop k)) (by simp [Act.eval, Act.put]) HWD.out (HS2.out.later HE.out.bel) tcells_one (by have := HBD.out; unfold maxLen; omega) (by have := HBD.out; omega) HE.out.bel.size (n + 1) (by have := HBD.out; omega) _ rfl ?_; intro a3 c3 w5 ho5 hg5 _; have HZ := Lib.hid (HE.out.fin rfl (Below.refl _ _) ho5 hg5); have hp5 := (HZ.out.bel.cell (p := ⟨p, 2, none⟩) hpl).trans HP0.out; have hf5 := (HZ.out.bel.frozen (p := ⟨p, 2, none⟩) hpl).trans HF0.out; clear ho5 hg5))
    all_goals
      go_wp2
      go_ret
      obtain ⟨e1, e2, e3⟩ := H.out.setL HL'.out.1 (by rw [HL'.out.2]; exact HZ.out)
      exact ⟨rfl, _, HY.out, _, ⟨_, _, _, e1, rfl⟩, (HFW.out.mono (fun _ _ h => h.elim)).trans' e2 (fun k _ e => .inl e), fun k hk => by
        rcases e3 k hk with e | e
        · exact .inl e
        · have := HFW.out.size; exact .inr (by omega)⟩

/-- Where it refuses. -/
def openRC (cost now : Nat) (L : List Tm) (r id : Int) (dead : Nat) : Int :=
  if id < 0 ∨ 65535 < id then 1 else if 4611686018427387904 ≤ dead then 2 else if 0 ≤ r then 7 else if 64 ≤ L.length then 4 else if dead ≤ now + cost then 11 else 0
set_option maxHeartbeats 8000000 in
theorem rbopen_bad (p cost now : Nat) (L : List Tm) (fs : List FateM) (G0 : Nat → Prop) (id : Int) (at' : Nat) (W : World) (h : RK W p cost now L fs G0) (hl : L.length ≤ 1000000) (r : Int) (hnf : FindR L id r) (c : Int) (hc : openRC cost now L r id at' = c) (h0 : c ≠ 0) (hcn : cost ≤ 1000 ∧ now < 4611686018427387904) :
    Calls Try.prog 17 #[.pointer (some ⟨p, 0, none⟩), .int .i64 id, .int .u64 at'] W fun e w' => e = .returned (.int .i64 c) ∧ Below W.heap.size W w' := by
  obtain ⟨a, cc, fv, h, rfl⟩ := h
  have HQ := Box.mk (rbfind_any p cost now L fs a cc fv id r W h hnf)
  have k0 := h.c0
  have k1 := h.c1
  have k2 := h.c2
  clear h hnf
  unfold openRC at hc
  by_cases h1 : id < 0
  · rw [if_pos (.inl h1)] at hc
    subst hc
    clear h0
    go_enter Try.func17, Try.ntmps17
    go_wp2
    go_ret
    exact ⟨rfl, Below.refl _ _⟩
  by_cases h2 : 65535 < id
  · rw [if_pos (.inr h2)] at hc
    subst hc
    clear h0
    go_enter Try.func17, Try.ntmps17
    go_wp2
    go_ret
    exact ⟨rfl, Below.refl _ _⟩
  rw [if_neg (by omega)] at hc
  by_cases h3 : 4611686018427387904 ≤ at'
  · rw [if_pos h3] at hc
    subst hc
    have eB : ((4611686018427387904 : Int) ≤ (at' : Int)) = True := eq_true (by omega)
    clear h0 h3
    go_enter Try.func17, Try.ntmps17
    go_wp2
    go_ret
    exact ⟨rfl, Below.refl _ _⟩
  rw [if_neg h3] at hc
  have eB : ((4611686018427387904 : Int) ≤ (at' : Int)) = False := eq_false (by omega)
  by_cases h4 : 0 ≤ r
  · rw [if_pos h4] at hc
    subst hc
    clear h0 h3
    go_enter Try.func17, Try.ntmps17
    go_wp2_with (go_at_call 30; (with_reducible refine HQ.out.mono ?_); rintro e w1 ⟨rfl, rfl⟩)
    go_ret
    exact ⟨rfl, Below.refl _ _⟩
  rw [if_neg h4] at hc
  by_cases h5 : 64 ≤ L.length
  · rw [if_pos h5] at hc
    subst hc
    have h5i : (64 : Int) ≤ (L.length : Int) := by omega
    clear h0 h3
    go_enter Try.func17, Try.ntmps17
    go_wp2_with (go_at_call 30; (with_reducible refine HQ.out.mono ?_); rintro e w1 ⟨rfl, rfl⟩)
    go_ret
    exact ⟨rfl, Below.refl _ _⟩
  rw [if_neg h5] at hc
  by_cases h6 : at' ≤ now + cost
  · rw [if_pos h6] at hc
    subst hc
    have h5i : ¬ (64 : Int) ≤ (L.length : Int) := by omega
    have h6i : (at' : Int) ≤ (now : Int) + (cost : Int) := by omega
    have g5 : (now : Int) + (cost : Int) ≤ 4611686018427388904 := by omega
    clear h0 h3
    go_enter Try.func17, Try.ntmps17
    go_upto_region 9 with (go_at_call 30; (with_reducible refine HQ.out.mono ?_); rintro e w1 ⟨rfl, rfl⟩)
    go_quiet (fail)
    go_wp2
    go_ret
    exact ⟨rfl, same_drawn _⟩
  · rw [if_neg h6] at hc
    exact absurd hc.symm h0

end Go.Proofs.Ytbodnmcaipakcaa
