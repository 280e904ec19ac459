/-
  Records of ticks: the reader: the walks of 'who', 'nums', 'fates'.
-/
import Derived.Test.YtimeodjfihpgeaaDoorTrM
import Derived.Test.YtimeodjfihpgeaaDoorTrD
namespace Go.Proofs.YtimeodjfihpgeaaDoor
open Go.RowKit

theorem Tryd.infoI : (Tryd.prog.info? 3).map (fun i => (i.zero, i.size, i.bytes)) = some (some (.int .i64 0), 1, 8) := by kernel_rfl
theorem mark_at (PB m : Nat) (ps : List Part) (w : World) (h : RdAt w PB ps) (M : Int) (hM : M = (m : Int)) : Calls Tryd.prog 38 #[.pointer (some ⟨PB, 0, none⟩), .int .i32 M] w fun e w' => MarkOut w PB m ps e w' := by
  subst hM; exact mark_any PB m ps w h
theorem numP_bound {ps : List Part} : (numP ps).2.length ≤ ps.length := numP_len ps
def WhoOut (w : World) (PB : Nat) (ps : List Part) (e : Ending) (w' : World) : Prop := e = .returned (.int .i64 (whoP ps).1) ∧ RdAt w' PB (whoP ps).2 ∧ Fr (fun k => k = PB) w w'
/-- The numbers of a list are small. -/
def PsOk (ps : List Part) : Prop := ∀ n, Part.num n ∈ ps → 0 ≤ n ∧ n ≤ 2147483647
theorem PsOk.num {ps : List Part} (h : PsOk ps) : -1 ≤ (numP ps).1 ∧ (numP ps).1 ≤ 2147483647 ∧ PsOk (numP ps).2 := by
  cases ps with
  | nil => exact ⟨by decide, by decide, h⟩
  | cons p q =>
    cases p with
    | mk r => exact ⟨by show (-1 : Int) ≤ -1; decide, by show (-1 : Int) ≤ _; decide, h⟩
    | num n => have := h n (List.mem_cons_self ..); exact ⟨by show -1 ≤ n; omega, this.2, fun m hm => h m (List.mem_cons_of_mem _ hm)⟩
theorem PsOk.mark {ps q : List Part} {m : Nat} (h : PsOk ps) (hm : markP m ps = some q) : PsOk q := by
  cases ps with
  | nil => cases hm
  | cons p r =>
    cases p with
    | num n => cases hm
    | mk c =>
      simp only [markP] at hm
      split at hm
      · injection hm with hm; subst hm; exact fun n hn => h n (List.mem_cons_of_mem _ hn)
      · cases hm
set_option maxHeartbeats 8000000 in
theorem who_any (PB : Nat) (ps : List Part) (w : World) (h : RdAt w PB ps) (ho : PsOk ps) :
    Calls Tryd.prog 26 #[.pointer (some ⟨PB, 0, none⟩)] w fun e w' => WhoOut w PB ps e w' := by
  have HR := Box.mk h
  have HO := Box.mk ho
  clear h ho
  cases h1 : markP 116 ps with
  | some q =>
    have HM : Box (∀ e w', MarkOut w PB 116 ps e w' → e = .returned (.bool true) ∧ RdAt w' PB q ∧ Fr (fun k => k = PB) w w') := ⟨fun e w' hx => by unfold MarkOut at hx; rw [h1] at hx; exact hx⟩
    have HW : Box (whoP ps = numP q) := ⟨by unfold whoP; rw [h1]⟩
    clear h1
    go_enter Tryd.func26, Tryd.ntmps26
    go_wp2_with (first
      | (go_at_call 38; (with_reducible refine (mark_at PB 116 ps w HR.out 116 rfl).mono ?_); intro e w1 hx; obtain ⟨rfl, hr1, hf1⟩ := HM.out e w1 hx; have HR1 := Box.mk hr1; have HF1 := Box.mk hf1; clear hx hr1 hf1)
      | (go_at_call 39; (with_reducible refine (num_any PB q w1 HR1.out).mono ?_); rintro e w2 ⟨rfl, hr2, hf2⟩; have HR2 := Box.mk hr2; have HF2 := Box.mk hf2; clear hr2 hf2))
    go_ret
    exact ⟨by rw [HW.out]; rfl, by rw [HW.out]; exact HR2.out, HF1.out.trans HF2.out⟩
  | none =>
    have HM : Box (∀ e w', MarkOut w PB 116 ps e w' → e = .returned (.bool false) ∧ RdAt w' PB ps ∧ Fr (fun k => k = PB) w w') := ⟨fun e w' hx => by unfold MarkOut at hx; rw [h1] at hx; exact hx⟩
    cases h2 : markP 115 ps with
    | some q =>
      have HM2 : Box (∀ w e w', MarkOut w PB 115 ps e w' → e = .returned (.bool true) ∧ RdAt w' PB q ∧ Fr (fun k => k = PB) w w') := ⟨fun w e w' hx => by unfold MarkOut at hx; rw [h2] at hx; exact hx⟩
      have HW : Box (whoP ps = (100 + (numP q).1, (numP q).2)) := ⟨by unfold whoP; rw [h1, h2]⟩
      have hb := (HO.out.mark h2).num
      have hwr : IntKind.i64.wrap (100 + (numP q).1) = 100 + (numP q).1 := IntWalk.i64_in _ (by omega)
      clear h1 h2 hb
      go_enter Tryd.func26, Tryd.ntmps26
      go_wp2_with (first
        | (go_at_call 38; (with_reducible refine (mark_at PB 116 ps w HR.out 116 rfl).mono ?_); intro e w1 hx; obtain ⟨rfl, hr1, hf1⟩ := HM.out e w1 hx; have HR1 := Box.mk hr1; have HF1 := Box.mk hf1; clear hx hr1 hf1)
        | (go_at_call 38; (with_reducible refine (mark_at PB 115 ps w1 HR1.out 115 rfl).mono ?_); intro e w2 hx; obtain ⟨rfl, hr1, hf1⟩ := HM2.out w1 e w2 hx; have HR2 := Box.mk hr1; have HF2 := Box.mk hf1; clear hx hr1 hf1)
        | (go_at_call 39; (with_reducible refine (num_any PB q w2 HR2.out).mono ?_); rintro e w3 ⟨rfl, hr2, hf2⟩; have HR3 := Box.mk hr2; have HF3 := Box.mk hf2; clear hr2 hf2))
      go_ret
      exact ⟨by rw [HW.out]; rfl, by rw [HW.out]; exact HR3.out, (HF1.out.trans HF2.out).trans HF3.out⟩
    | none =>
      have HM2 : Box (∀ w e w', MarkOut w PB 115 ps e w' → e = .returned (.bool false) ∧ RdAt w' PB ps ∧ Fr (fun k => k = PB) w w') := ⟨fun w e w' hx => by unfold MarkOut at hx; rw [h2] at hx; exact hx⟩
      have HW : Box (whoP ps = (-1, (markP 46 ps).getD ps)) := ⟨by unfold whoP; rw [h1, h2]⟩
      clear h1 h2
      go_enter Tryd.func26, Tryd.ntmps26
      go_wp2_with (first
        | (go_at_call 38; (with_reducible refine (mark_at PB 116 ps w HR.out 116 rfl).mono ?_); intro e w1 hx; obtain ⟨rfl, hr1, hf1⟩ := HM.out e w1 hx; have HR1 := Box.mk hr1; have HF1 := Box.mk hf1; clear hx hr1 hf1)
        | (go_at_call 38; (with_reducible refine (mark_at PB 115 ps w1 HR1.out 115 rfl).mono ?_); intro e w2 hx; obtain ⟨rfl, hr1, hf1⟩ := HM2.out w1 e w2 hx; have HR2 := Box.mk hr1; have HF2 := Box.mk hf1; clear hx hr1 hf1)
        | (go_at_call 38; (with_reducible refine (mark_at PB 46 ps w2 HR2.out 46 rfl).mono ?_); rintro e w3 ⟨rfl, hr2, hf2⟩; have HR3 := Box.mk hr2; have HF3 := Box.mk hf2; clear hr2 hf2))
      go_ret
      exact ⟨by rw [HW.out]; rfl, by rw [HW.out]; exact HR3.out, (HF1.out.trans HF2.out).trans HF3.out⟩

/-- How many parts a reader has left. -/
def lenAt (w : World) (PB : Nat) : Nat := match w.cell? ⟨PB, 0, none⟩ with | some (.slice _ n _) => n | _ => 0
theorem rd_len {w : World} {PB : Nat} {ps : List Part} (h : RdAt w PB ps) : lenAt w PB = ps.length := by
  obtain ⟨ao, n, c, h1, h2, h3, h4, h5⟩ := h
  have : w.cell? ⟨PB, 0, none⟩ = some (.slice ao n c) := (cell_blk h4 0).trans rfl
  unfold lenAt
  rw [this]
  exact h1
theorem rd_big {w : World} {PB : Nat} {ps : List Part} (h : RdAt w PB ps) : ps.length ≤ 2000000 := by
  obtain ⟨ao, n, c, h1, h2, h3, h4, h5⟩ := h
  omega
def NumsOut (w : World) (PB m : Nat) (ps : List Part) (e : Ending) (w' : World) : Prop := ∃ (ao : Option Addr) (n c : Nat), e = .returned (.slice ao n c) ∧ n = (numsP m ps).1.length ∧ w'.ownsRow w.heap.size 3 1 (.slice ao n c) n (ints (numsP m ps).1) ∧ RdAt w' PB (numsP m ps).2 ∧ Fr (fun k => k = PB) w w'
set_option maxHeartbeats 8000000 in
theorem rnums_any (PB m : Nat) (M : Int) (hM : M = (m : Int)) (ps : List Part) (w : World) (h : RdAt w PB ps) :
    Calls Tryd.prog 27 #[.pointer (some ⟨PB, 0, none⟩), .int .i32 M] w fun e w' => NumsOut w PB m ps e w' := by
  obtain ⟨i0, hi, hz0, hz1, hz2⟩ := info_parts Tryd.infoI
  have HR := Box.mk h
  have hPB := rd_lt h
  have hbig := rd_big h
  have HMM := Box.mk hM
  clear h hM
  go_enter Tryd.func27, Tryd.ntmps27
  go_upto_block 0 with fail
  go_wp2
  go_loopw [5] (fun s5 wr => ∃ (l : List Int) (q : List Part) (ao : Option Addr) (c : Nat), s5 = .slice ao l.length c ∧ l.length + q.length ≤ ps.length ∧ Box (wr.ownsRow w.heap.size 3 1 (.slice ao l.length c) l.length (ints l)) ∧ Box (RdAt wr PB q) ∧ Box (Fr (fun k => k = PB) w wr) ∧ Box ((l ++ (numsP m q).1, (numsP m q).2) = numsP m ps)) (fun _ wr => lenAt wr PB)
  case atStart => exact ⟨[], ps, none, 0, rfl, by simp, ⟨World.ownsRow_nil _ _ _ _⟩, HR, ⟨Fr.refl _ _⟩, ⟨by simp⟩⟩
  case round =>
    clear HR
    obtain ⟨l, q, ao, c, rfl, hlq, HOW, HRD, HF, HX⟩ := hrel
    have HLA := Box.mk (rd_len HRD.out)
    have hsz := HF.out.size
    cases h1 : markP m q with
    | none =>
      have HMA : Box (∀ e w', MarkOut wr PB m q e w' → e = .returned (.bool false) ∧ RdAt w' PB q ∧ Fr (fun k => k = PB) wr w') := ⟨fun e w' hx => by unfold MarkOut at hx; rw [h1] at hx; exact hx⟩
      have HE : Box (numsP m ps = (l, q)) := ⟨by rw [← HX.out, numsP_none h1]; simp⟩
      clear h1 HX
      go_wp2_with (go_at_call 38; (with_reducible refine (mark_at PB m q wr HRD.out M HMM.out).mono ?_); intro e w1 hx; obtain ⟨rfl, hr1, hf1⟩ := HMA.out e w1 hx; have HR1 := Box.mk hr1; have HF1 := Box.mk hf1; clear hx hr1 hf1)
      go_ret
      have hown := ownsRow_fr HOW.out (fun g hg => HF1.out.block g (ownsRow_lt HOW.out hg).2 (by have := (ownsRow_lt HOW.out hg).1; omega))
      exact ⟨ao, l.length, c, rfl, by rw [HE.out], by rw [HE.out]; exact hown, by rw [HE.out]; exact HR1.out, HF.out.trans HF1.out⟩
    | some x =>
      have HMA : Box (∀ e w', MarkOut wr PB m q e w' → e = .returned (.bool true) ∧ RdAt w' PB x ∧ Fr (fun k => k = PB) wr w') := ⟨fun e w' hx => by unfold MarkOut at hx; rw [h1] at hx; exact hx⟩
      have HE : Box (((l ++ [(numP x).1]) ++ (numsP m (numP x).2).1, (numsP m (numP x).2).2) = numsP m ps) := ⟨by rw [← HX.out, numsP_some h1]; simp⟩
      have hlx := markP_len h1
      have hln := numP_len x
      clear h1 HX
      obtain ⟨V0, HV0⟩ : ∃ v, Box (v = (numP x).1) := ⟨_, ⟨rfl⟩⟩
      rw [← HV0.out] at HE
      go_wp2_with (first
        | (go_at_call 38; (with_reducible refine (mark_at PB m q wr HRD.out M HMM.out).mono ?_); intro e w1 hx; obtain ⟨rfl, hr1, hf1⟩ := HMA.out e w1 hx; have HR1 := Box.mk hr1; have HF1 := Box.mk hf1; clear hx hr1 hf1)
        | (go_at_call 39; (with_reducible refine (num_any PB x w1 HR1.out).mono ?_); rintro e w2 ⟨rfl, hr2, hf2⟩; rw [← HV0.out]; have HR2 := Box.mk hr2; have HF2 := Box.mk (HF1.out.trans hf2); have HOW2 := Box.mk (ownsRow_fr HOW.out (fun g hg => HF2.out.block g (ownsRow_lt HOW.out hg).2 (by have := (ownsRow_lt HOW.out hg).1; omega))); clear hr2 hf2)
        | (at_builtin; refine wpList_append_lies _ rfl (.tmp 9) (.tmp 12) 22 rfl w.heap.size 3 i0 (.int .i64 0) 1 8 Tryd.underlying22 hi hz0 hz1 hz2 rfl (by decide) (.slice ao l.length c) l.length (ints l) rfl (HOW2.out.alloc _) ⟨w2.heap.size, 0, none⟩ 1 1 [.int .i64 V0] rfl rfl (World.news_of_block (cs := #[.int .i64 V0]) (blk_new _ _)) ?h1 (by omega) ?b1 ?b2 ?b3 _ rfl ?nxt))
      case h1 => simp [Value.oneCell']
      case b1 => unfold maxLen; omega
      case b2 => omega
      case b3 => exact Nat.le_trans (Nat.le_trans hsz HF2.out.size) (by simp)
      case nxt =>
        intro g3 c3 w3 ho3 hg3 _ _
        have hne : ∀ k, (Value.slice ao l.length c).ownBlock = some k → w.heap.size ≤ k := fun k hk => (ownsRow_lt HOW.out hk).1
        have hfa : Fr (fun k => k = PB) w w3 := ((HF.out.trans HF2.out).alloc _).grown hg3 (fun k hk => .inr (hne k hk))
        have hup : ∀ k, k ≤ PB → w3.heap[k]? = (World.heap w2)[k]? := fun k hk => by
          rw [hg3.block k (by have := HF2.out.size; simp; omega) (fun e => by have := hne k e.symm; omega), Below.heap_alloc _ _ _ (by have := HF2.out.size; omega)]
        have HR3 := Box.mk (rd_up HR2.out hup)
        have HLB := Box.mk (rd_len HR3.out)
        have HO3 : Box (w3.ownsRow w.heap.size 3 1 (.slice (some ⟨g3, 0, none⟩) (l ++ [V0]).length c3) (l ++ [V0]).length (ints (l ++ [V0]))) := ⟨by
          have : ints (l ++ [V0]) = ints l ++ [.int .i64 V0] := by simp [ints]
          rw [this, List.length_append]
          exact ho3⟩
        have HF3 := Box.mk hfa
        clear ho3 hg3 hne hfa hup
        go_wp2
        go_roundw
        case rel => exact ⟨l ++ [V0], (numP x).2, some ⟨g3, 0, none⟩, c3, by simp, by simp; omega, HO3, HR3, HF3, HE⟩
        case measure => rw [HLB.out, HLA.out]; omega

end Go.Proofs.YtimeodjfihpgeaaDoor
