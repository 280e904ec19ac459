/-
  The walks of a wheel's put and drop.
-/
import Derived.Test.YtbodnmcaipakcaaWhB
import Derived.StillTailTactics
namespace Go.Proofs.Ytbodnmcaipakcaa
open Go.RowKit

theorem drawn_below {w : World} (n : Nat) : Below w.heap.size w (w.drewN n) := ⟨rfl, rfl, rfl, Nat.le_refl _, fun _ _ => rfl⟩
theorem eqlSome (b : Nat) (w : World) : (binOp .eql 79 (.map (some b)) (.map none)).run Try.prog w = .ok (.bool false) w := by kernel_rfl
theorem eqlNil (w : World) : (binOp .eql 79 (.map none) (.map none)).run Try.prog w = .ok (.bool true) w := by kernel_rfl
theorem partq_any (t lv : Nat) (hl : lv < 16) (ht : t < 9223372036854775808) (w : World) (d n : Nat) :
    Calls Try.prog 40 #[.int .u64 t, .int .i64 lv] (w.drewN (d + n)) fun e w'' => e = .returned (.int .i64 (partN t lv)) ∧ ∃ m, w'' = w.drewN (d + m) :=
  (part_any t lv hl ht (w.drewN (d + n))).mono fun e w' h => ⟨h.1, n, h.2.symm⟩

set_option maxHeartbeats 8000000 in
set_option maxRecDepth 100000 in
theorem put_any (p : Nat) (M : WM) (F : Nat → Prop) (i at' : Nat) (w : World) (h : WAt w p M F) (hi : i < 1000) (hn : M.f i = none) (ha : at' < 4611686018427387904) :
    Calls Try.prog 33 #[.pointer (some ⟨p, 0, none⟩), .int .i64 i, .int .u64 at'] w fun e w' => e = .returned (.tuple #[]) ∧ WPost w p (M.put i at') F w' := by
  obtain ⟨ab, rb, h⟩ := h
  have H := Box.mk h
  have HN := Box.mk hn
  have htm := h.time
  obtain ⟨now, hnow⟩ : ∃ now, M.now = now := ⟨_, rfl⟩
  have HNOW := Box.mk hnow
  have c257 := (cell_blk h.blk 257).trans wcells_now
  rw [hnow] at c257 htm
  have hpl := h.lt p h.mem
  clear h hn hnow
  go_enter Try.func33, Try.ntmps33
  go_wp2
  go_loopw [6, 7, 9] (fun l _ k wr => ∃ k' d : Nat, k' ≤ 16 ∧ k = .int .i64 k' ∧ l = .int .i64 (lvK at' now k') ∧ wr = w.drewN d) (fun _ _ k _ => 16 - (intOf k).toNat)
  case atStart => exact ⟨0, 0, by omega, rfl, rfl, rfl⟩
  case round =>
    obtain ⟨k, d, hk, rfl, rfl, rfl⟩ := hrel
    by_cases hk16 : k < 16
    · have hki : (k : Int) < 16 := by omega
      have HST : Box (lvK at' now (k + 1) = if partN at' k ≠ partN now k then k else lvK at' now k) := ⟨rfl⟩
      have HQ : Box (∀ (t : Nat), t < 9223372036854775808 → ∀ (w : World) (d n : Nat), Calls Try.prog 40 #[.int .u64 t, .int .i64 k] (w.drewN (d + n)) fun e w'' => e = .returned (.int .i64 (partN t k)) ∧ ∃ m, w'' = w.drewN (d + m)) := ⟨fun t ht w d n => partq_any t k hk16 ht w d n⟩
      have HQA := Box.mk (HQ.out at' (by omega))
      have HQB := Box.mk (HQ.out now (by omega))
      obtain ⟨A, hA⟩ : ∃ A, partN at' k = A := ⟨_, rfl⟩
      obtain ⟨B, hB⟩ : ∃ B, partN now k = B := ⟨_, rfl⟩
      rw [hA] at HQA HST
      rw [hB] at HQB HST
      clear hA hB HQ
      by_cases hab : A = B
      · have hne : ((A : Int) != (B : Int)) = false := by simp [hab]
        have HST2 : Box (lvK at' now (k + 1) = lvK at' now k) := ⟨by rw [HST.out, if_neg (by simp [hab])]⟩
        clear hab HST
        go_upto_region 4 with fail
        go_quiet ((first | (go_at_call 40; with_reducible exact HQA.out _ _ _) | (go_at_call 40; with_reducible exact HQB.out _ _ _)))
        go_wp2
        go_roundw
        case rel => exact ⟨k + 1, _, by omega, by go_num, by rw [HST2.out], rfl⟩
        case measure => simp [intOf] <;> omega
      · have hne : ((A : Int) != (B : Int)) = true := by simp; omega
        have HST2 : Box (lvK at' now (k + 1) = k) := ⟨by rw [HST.out, if_pos hab]⟩
        clear hab HST
        go_upto_region 4 with fail
        go_quiet ((first | (go_at_call 40; with_reducible exact HQA.out _ _ _) | (go_at_call 40; with_reducible exact HQB.out _ _ _)))
        go_wp2
        go_roundw
        case rel => exact ⟨k + 1, _, by omega, by go_num, by rw [HST2.out], rfl⟩
        case measure => simp [intOf] <;> omega
    · obtain ⟨L, hL⟩ : ∃ L, lvOf at' now = L := ⟨_, rfl⟩
      have hL16 : L < 16 := hL ▸ lvOf_lt at' now
      have hLk : lvK at' now k = L := by rw [← hL, show k = 16 from by omega]; rfl
      rw [hLk]
      obtain ⟨Q, hQ⟩ : ∃ Q, partN at' L = Q := ⟨_, rfl⟩
      have hQ16 : Q < 16 := hQ ▸ partN_lt at' L
      have hki : ¬ (k : Int) < 16 := by omega
      have hp0 := part_any at' L hL16 (by omega) (w.drewN d)
      rw [hQ] at hp0
      have HP := Box.mk hp0
      have HSP : Box (spotOf at' M.now = ⟨at', L, Q⟩) := ⟨by unfold spotOf; rw [HNOW.out, hL, hQ]⟩
      have H2 := Box.mk (H.out.fr (Fr.of_below (F := fun _ => False) (drawn_below d)) (fun _ _ h => h))
      have HFD : Box (Fr (fun _ => False) w (w.drewN d)) := ⟨Fr.of_below (drawn_below d)⟩
      clear hp0 hL hQ hLk c257
      go_upto_region 8 with (go_at_call 40; (with_reducible refine HP.out.mono ?_); rintro e w1 ⟨rfl, rfl⟩)
      generalize w.drewN d = V at H2 HFD ⊢
      clear HP
      have hkw : kwf (i : Int) := kwf_of (by omega) (by omega)
      have hplV := lt_blk H2.out.blk
      have cr : V.cell? ⟨p, L * 16 + Q, none⟩ = some (.map (rb L Q)) := (cell_blk H2.out.blk (L * 16 + Q)).trans (wcells_row hL16 hQ16)
      have ca : V.cell? ⟨p, 256, none⟩ = some (.map (some ab)) := (cell_blk H2.out.blk 256).trans wcells_all
      have hrow := H2.out.row L Q hL16 hQ16
      cases hrb : rb L Q with
      | some b =>
        rw [hrb] at hrow cr
        obtain ⟨hb1, hb2, hb3, hb4⟩ := hrow
        obtain ⟨W1, hr1, hm1, hf1⟩ := hb4.store Try.underlying3 Try.underlying79 (by omega) hkw true
        replace hr1 : (Instr.mapUpdate 79 (.map (some b)) (.int .i64 (i : Int)) (.bool true)).run Try.prog V = .ok () W1 := hr1
        have ca1 := (hf1.cell (p := ⟨p, 256, none⟩) hplV (fun e => hb2 e.symm)).trans ca
        have hall1 := H2.out.all.2.2.fr hf1 (fun e => hb3 e.symm)
        obtain ⟨W2, hr2, hm2, hf2⟩ := hall1.store Try.underlying3 Try.underlying78 (by omega) hkw ⟨at', L, Q⟩
        replace hr2 : (Instr.mapUpdate 78 (.map (some ab)) (.int .i64 (i : Int)) (.agg #[.int .u64 at', .int .i64 L, .int .i64 Q])).run Try.prog W1 = .ok () W2 := hr2
        have hfw : Fr (fun k => k = p ∨ k = ab ∨ k = b) V W2 := (hf1.mono (fun k _ e => .inr (.inr e))).trans (hf2.mono (fun k _ e => .inr (.inl e)))
        have HE : Box (WPost w p (M.put i at') F W2) := ⟨by
          have hbW : rb1 rb L Q (some b) = rb := by
            funext l q
            unfold rb1
            split
            · rename_i e; rw [e.1, e.2, hrb]
            · rfl
          have hp := H2.out.put (w' := W2) hi HN.out (s := ⟨at', L, Q⟩) ⟨hL16, hQ16, ha⟩ (b := b) (.inl hrb) (by
            show W2.heap[p]? = some (.cells (wcells (rb1 rb L Q (some b)) ab M.now) _ _)
            rw [hbW]
            have h1 := hf1.blk H2.out.blk (fun e => hb2 e.symm)
            exact hf2.blk h1 (fun e => H2.out.all.2.1 e.symm)) (hm1.fr hf2 hb3) hm2 hfw
          have e : M.put i at' = ⟨M.now, updF M.f i (some ⟨at', L, Q⟩)⟩ := by unfold WM.put; rw [HSP.out]
          rw [e]
          obtain ⟨F', a1, a2, a3⟩ := hp
          exact ⟨F', a1, (HFD.out.mono (fun _ _ h => h.elim)).trans a2, fun k hk => (a3 k hk).imp id (fun h => Nat.le_trans HFD.out.size h)⟩⟩
        clear hm1 hm2 hf1 hf2 hb4 hall1 hfw hb1 hb2 hb3
        have hq := eqlSome b
        go_wp2
        go_end0
        exact ⟨rfl, HE.out⟩
      | none =>
        rw [hrb] at hrow cr
        have hq := eqlNil
        have hmm := @run_makeMap Try.prog
        have hpF := H2.out.lt p H2.out.mem
        have hS1 : Fr (fun k => k = p) V (V.setCell ⟨p, L * 16 + Q, none⟩ (.map (some V.heap.size))) := Fr.setCell (F := fun k => k = p) (Fr.refl _ V) (p := ⟨p, L * 16 + Q, none⟩) (.inl rfl) _
        have hsz1 : (V.setCell ⟨p, L * 16 + Q, none⟩ (.map (some V.heap.size))).heap.size = V.heap.size := by simp
        have hblk0 := blk_set (i := L * 16 + Q) H2.out.blk (.map (some V.heap.size))
        rw [wcells_set hL16 hQ16] at hblk0
        have hblk1 := blk_alloc (o := .map #[] 0) hblk0
        have hF2 : Fr (fun k => k = p) V ((V.setCell ⟨p, L * 16 + Q, none⟩ (.map (some V.heap.size))).alloc (.map #[] 0)) := hS1.alloc _
        have hne : V.heap.size ≠ p := by omega
        have hB1 := MapAt.made (V.setCell ⟨p, L * 16 + Q, none⟩ (.map (some V.heap.size))) Try.prog 3 boolE
        rw [hsz1] at hB1
        have hall0 := H2.out.all.2.2.fr hF2 H2.out.all.2.1
        have cf : V.frozen? ⟨p, L * 16 + Q, none⟩ = false := free_blk H2.out.blk (L * 16 + Q)
        have hszV : V.heap.size < ((V.setCell ⟨p, L * 16 + Q, none⟩ (.map (some V.heap.size))).alloc (.map #[] 0)).heap.size := hB1.lt
        go_upto_region 10 with fail
        generalize (V.setCell ⟨p, L * 16 + Q, none⟩ (.map (some V.heap.size))).alloc (.map #[] 0) = V1 at hblk1 hF2 hB1 hall0 hszV ⊢
        clear hS1 hsz1 hblk0
        obtain ⟨B, hBe⟩ : ∃ B, V.heap.size = B := ⟨_, rfl⟩
        rw [hBe] at hblk1 hB1 hne hszV ⊢
        have cr1 : V1.cell? ⟨p, L * 16 + Q, none⟩ = some (.map (some B)) := (cell_blk hblk1 (L * 16 + Q)).trans ((wcells_row hL16 hQ16).trans (by simp [rb1]))
        have ca1 : V1.cell? ⟨p, 256, none⟩ = some (.map (some ab)) := (cell_blk hblk1 256).trans wcells_all
        have hpl1 := lt_blk hblk1
        have hnab : ab ≠ B := by have := H2.out.lt ab H2.out.all.1; omega
        have hf00 : (fun x : Int => (none : Option Bool)) = M.row L Q := by funext x; exact (hrow x).symm
        rw [hf00] at hB1
        obtain ⟨W1, hr1, hm1, hf1⟩ := hB1.store Try.underlying3 Try.underlying79 (by omega) hkw true
        replace hr1 : (Instr.mapUpdate 79 (.map (some B)) (.int .i64 (i : Int)) (.bool true)).run Try.prog V1 = .ok () W1 := hr1
        have ca2 := (hf1.cell (p := ⟨p, 256, none⟩) hpl1 (fun e => hne e.symm)).trans ca1
        have hall1 := hall0.fr hf1 hnab
        obtain ⟨W2, hr2, hm2, hf2⟩ := hall1.store Try.underlying3 Try.underlying78 (by omega) hkw ⟨at', L, Q⟩
        replace hr2 : (Instr.mapUpdate 78 (.map (some ab)) (.int .i64 (i : Int)) (.agg #[.int .u64 at', .int .i64 L, .int .i64 Q])).run Try.prog W1 = .ok () W2 := hr2
        have hfw : Fr (fun k => k = p ∨ k = ab ∨ k = B) V W2 := ((hF2.mono (fun k _ e => .inl e)).trans (hf1.mono (fun k _ e => .inr (.inr e)))).trans (hf2.mono (fun k _ e => .inr (.inl e)))
        have HE : Box (WPost w p (M.put i at') F W2) := ⟨by
          have hp := H2.out.put (w' := W2) hi HN.out (s := ⟨at', L, Q⟩) ⟨hL16, hQ16, ha⟩ (b := B) (.inr ⟨hrb, by omega⟩) (hf2.blk (hf1.blk hblk1 (fun e => hne e.symm)) (fun e => H2.out.all.2.1 e.symm)) (hm1.fr hf2 (fun e => hnab e.symm)) hm2 hfw
          have e : M.put i at' = ⟨M.now, updF M.f i (some ⟨at', L, Q⟩)⟩ := by unfold WM.put; rw [HSP.out]
          rw [e]
          obtain ⟨F', a1, a2, a3⟩ := hp
          exact ⟨F', a1, (HFD.out.mono (fun _ _ h => h.elim)).trans a2, fun k hk => (a3 k hk).imp id (fun h => Nat.le_trans HFD.out.size h)⟩⟩
        clear hm1 hm2 hf1 hf2 hall1 hall0 hfw hB1 hblk1 hF2 hf00 hrow hq hmm cf
        go_wp2
        go_end0
        exact ⟨rfl, HE.out⟩


set_option maxHeartbeats 8000000 in
set_option maxRecDepth 100000 in
theorem drop_any (p : Nat) (M : WM) (F : Nat → Prop) (i : Nat) (s : Spot) (w : World) (h : WAt w p M F) (hn : M.f i = some s) :
    Calls Try.prog 32 #[.pointer (some ⟨p, 0, none⟩), .int .i64 i] w fun e w' => e = .returned (.tuple #[]) ∧ WAt w' p (M.drop i) F ∧ Fr F w w' := by
  obtain ⟨ab, rb, h⟩ := h
  have hi : i < 1000 := by
    rcases Nat.lt_or_ge i 1000 with g | g
    · exact g
    · rw [h.ids i g] at hn; cases hn
  have hkw : kwf (i : Int) := kwf_of (by omega) (by omega)
  have hsp := h.spots i s hn
  have ca := (cell_blk h.blk 256).trans wcells_all
  have hpl := lt_blk h.blk
  have hlk := h.all.2.2.look Try.underlying3 Try.underlying78 (Try.zeroSpot w) hkw
  rw [all_nat, hn] at hlk
  have hrow := h.row s.lv s.pl hsp.1 hsp.2.1
  obtain ⟨b, hrb⟩ : ∃ b, rb s.lv s.pl = some b := by
    cases hrb : rb s.lv s.pl with
    | some b => exact ⟨b, rfl⟩
    | none =>
      rw [hrb] at hrow
      have := hrow i
      simp [WM.row, all_nat, hn, inRow] at this
  rw [hrb] at hrow
  obtain ⟨hb1, hb2, hb3, hb4⟩ := hrow
  have H := Box.mk h
  have HN := Box.mk hn
  have HRB := Box.mk hrb
  obtain ⟨at', L, Q⟩ := s
  replace hlk : (Instr.lookup 78 (.map (some ab)) (.int .i64 (i : Int)) false).run Try.prog w = .ok (.agg #[.int .u64 at', .int .i64 L, .int .i64 Q]) w := hlk
  simp only at hsp hrb
  obtain ⟨hL16, hQ16, -⟩ := hsp
  have hLi : (L : Int) < 16 := by omega
  have hQi : (Q : Int) < 16 := by omega
  clear h hn
  go_enter Try.func32, Try.ntmps32
  go_upto_region 1 with fail
  have hf0 : Fr (fun _ => False) w (w.alloc (.cells #[.int .u64 at', .int .i64 L, .int .i64 Q] 85)) := (Fr.refl _ w).alloc _
  have hnb := blk_new w (.cells #[.int .u64 at', .int .i64 L, .int .i64 Q] 85)
  generalize w.alloc (.cells #[.int .u64 at', .int .i64 L, .int .i64 Q] 85) = V at hf0 hnb ⊢
  have cr : V.cell? ⟨p, L * 16 + Q, none⟩ = some (.map (some b)) := (hf0.cell (p := ⟨p, L * 16 + Q, none⟩) hpl (fun h => h)).trans ((cell_blk H.out.blk (L * 16 + Q)).trans ((wcells_row hL16 hQ16).trans (by rw [hrb])))
  have s1 : V.cell? ⟨w.heap.size, 1, none⟩ = some (.int .i64 L) := cell_blk hnb 1
  have s2 : V.cell? ⟨w.heap.size, 2, none⟩ = some (.int .i64 Q) := cell_blk hnb 2
  have hfd : Fr (fun _ => False) w V.drew := hf0.drew
  obtain ⟨W1, hr1, hm1, hf1⟩ := (hb4.fr hfd (fun h => h)).drop Try.underlying3 Try.underlying79 hkw 0
  have ca1 := (hf1.cell (p := ⟨p, 256, none⟩) (Nat.lt_of_lt_of_le hpl hfd.size) (fun e => hb2 e.symm)).trans ((hfd.cell (p := ⟨p, 256, none⟩) hpl (fun h => h)).trans ca)
  obtain ⟨W2, hr2, hm2, hf2⟩ := ((H.out.all.2.2.fr hfd (fun h => h)).fr hf1 (fun e => hb3 e.symm)).drop Try.underlying3 Try.underlying78 hkw 0
  have HE : Box (WAt W2 p (M.drop i) F ∧ Fr F w W2) := ⟨H.out.drop HN.out HRB.out (hm1.fr hf2 hb3) hm2 (((hfd.mono (fun _ _ h => h.elim)).trans (hf1.mono (fun k _ e => .inr e))).trans (hf2.mono (fun k _ e => .inl e)))⟩
  clear hm1 hm2 hf1 hf2 hb4 hfd hf0 hnb ca hlk hrb
  go_still_tail 11, (by kernel_rfl)
  change wpList _ _ _ _ _ (World.drew _)
  go_wp2
  go_end0
  exact ⟨rfl, HE.out⟩

end Go.Proofs.Ytbodnmcaipakcaa
