/-
  The walk of move.
-/
import Derived.Test.YtbodnmcaipakcaaWhH
namespace Go.Proofs.Ytbodnmcaipakcaa
open Go.RowKit Go.ChangeMaps Go.MapKept Go.Shelf Go.Maps
theorem WPost.on {w wr w2 w3 : World} {p : Nat} {X Y : WM} {F F1 : Nat → Prop} (hf : Fr F w wr) (hg : Gro F F1 w) (hb : Below wr.heap.size wr w2) (h2 : WPost w2 p Y F1 w3) : WPost w p Y F w3 := by
  obtain ⟨F', ha, hf2, hg2⟩ := h2
  have hf3 : Fr F1 wr w3 := (Fr.of_below hb).trans hf2
  have hs1 := hf.size
  have hs2 := hb.size
  refine ⟨F', ha, hf.trans' hf3 (fun i hi h => ?_), fun k hk => ?_⟩
  · rcases hg i h with g | g
    · exact g
    · omega
  · rcases hg2 k hk with g | g
    · exact hg k g
    · exact .inr (by omega)
theorem WPost.round {W2 wx w1 w3 : World} {p : Nat} {Y : WM} {F1 F' : Nat → Prop} (hf : Fr F1 W2 wx) (hg : Gro F1 F' W2) (ha : Fr F' wx w1) (h : WPost w1 p Y F' w3) : WPost W2 p Y F1 w3 := by
  obtain ⟨F2, hw, hf2, hg2⟩ := h
  have hf3 : Fr F' wx w3 := ha.trans hf2
  have hs1 := hf.size
  have hs2 := ha.size
  refine ⟨F2, hw, hf.trans' hf3 (fun i hi h => ?_), fun k hk => ?_⟩
  · rcases hg i h with g | g
    · exact g
    · omega
  · rcases hg2 k hk with g | g
    · exact hg k g
    · exact .inr (by omega)
set_option maxHeartbeats 8000000 in
set_option maxRecDepth 100000 in
theorem move_any (p : Nat) (M : WM) (F : Nat → Prop) (n : Nat) (w : World) (h : WAt w p M F) (hn : n < 4611686018427387904) :
    Calls Try.prog 36 #[.pointer (some ⟨p, 0, none⟩), .int .u64 n] w fun e w' => e = .returned (.tuple #[]) ∧ ∃ X, MoveR M n X ∧ WPost w p X F w' := by
  obtain ⟨ab, rb, h⟩ := h
  have htm := h.time
  have c257 := (cell_blk h.blk 257).trans wcells_now
  have hpl := lt_blk h.blk
  have cf : w.frozen? ⟨p, 257, none⟩ = false := free_blk h.blk 257
  have hpF := h.lt
  obtain ⟨hw1, hfr1⟩ := h.setNow n hn
  have HP := Box.mk (show WPost w p ⟨n, M.f⟩ F (w.setCell ⟨p, 257, none⟩ (.int .u64 n)) from ⟨F, ⟨ab, rb, hw1⟩, hfr1, Gro.refl _ _⟩)
  have HL0 := Box.mk (LevR.start M n (fun i s hi => (h.spots i s hi).1))
  have HPa := fun (l : Nat) (hl : l < 16) (w : World) => part_any M.now l hl (by omega) w
  have HPb := fun (l : Nat) (hl : l < 16) (w : World) => part_any n l hl (by omega) w
  have HPA := Box.mk HPa
  have HPB := Box.mk HPb
  have HLT := Box.mk hpF
  obtain ⟨now, hnow⟩ : ∃ now, M.now = now := ⟨_, rfl⟩
  rw [hnow] at c257 htm
  have HNOW := Box.mk hnow
  clear h hw1 hfr1 HPa HPb hpF hnow
  go_enter Try.func36, Try.ntmps36
  go_wp2
  clear cf c257
  generalize w.setCell ⟨p, 257, none⟩ (.int .u64 n) = V at HP ⊢
  go_loopw [5, 7, 8] (fun s5 _ _ wr => ∃ (k : Nat) (X : WM), k ≤ 16 ∧ s5 = .int .i64 ((k : Int) - 1) ∧ Box (LevR M n k (fun _ _ => False) X) ∧ Box (WPost w p X F wr)) (fun s5 _ _ _ => (intOf s5 + 1).toNat)
  case atStart => exact ⟨16, _, by omega, rfl, HL0, HP⟩
  case round =>
    clear HP HL0
    obtain ⟨k, X, hk16, rfl, HL, HP⟩ := hrel
    by_cases hk : k = 0
    · subst hk
      have HM : Box (MoveR M n X) := ⟨HL.out.done⟩
      go_wp2
      go_end0
      exact ⟨rfl, X, HM.out, HP.out⟩
    · obtain ⟨l, rfl⟩ : ∃ l, k = l + 1 := ⟨k - 1, by omega⟩
      have e : (((l + 1 : Nat) : Int) - 1) = (l : Int) := by omega
      rw [e]
      clear e
      have hge : 0 ≤ (l : Int) := by omega
      have hl16 : l < 16 := by omega
      have hpa := HPA.out l hl16 wr
      have hpb := HPB.out l hl16 wr
      rw [HNOW.out] at hpa
      by_cases he : partN now l = partN n l
      · have hz : ((partN now l : Int) == (partN n l : Int)) = true := by rw [he]; simp
        have HPPA := Box.mk hpa
        have HPPB := Box.mk hpb
        have HL2 : Box (LevR M n l (fun _ _ => False) X) := ⟨HL.out.skip (by rw [HNOW.out]; exact he)⟩
        clear hpa hpb
        go_wp2_with (first | (go_at_call 40; (with_reducible refine HPPA.out.mono ?_); rintro e w1 ⟨rfl, rfl⟩) | (go_at_call 40; (with_reducible refine HPPB.out.mono ?_); rintro e w1 ⟨rfl, rfl⟩))
        go_roundw
        case rel => exact ⟨l, X, by omega, by go_num, HL2, HP⟩
        case measure => simp [intOf] <;> omega
      · have hz : ((partN now l : Int) == (partN n l : Int)) = false := beq_eq_false_iff_ne.2 (by omega)
        have HPPA := Box.mk hpa
        have HPPB := Box.mk hpb
        clear hpa hpb
        obtain ⟨Q, hQ⟩ : ∃ Q, partN n l = Q := ⟨_, rfl⟩
        go_upto_region 6 with (first | (go_at_call 40; (with_reducible refine HPPA.out.mono ?_); rintro e w1 ⟨rfl, rfl⟩) | (go_at_call 40; (with_reducible refine HPPB.out.mono ?_); rintro e w1 ⟨rfl, rfl⟩))
        obtain ⟨F1, ⟨ab1, rbx, hr1⟩, hfr1, hgr1⟩ := HP.out
        have HR1 := Box.mk hr1
        have HF1 := Box.mk hfr1
        have HG1 := Box.mk hgr1
        rw [hQ] at HPPB
        have hQ16 : Q < 16 := hQ ▸ partN_lt _ _
        have hli : (l : Int) < 16 := by omega
        have hqi : (Q : Int) < 16 := by omega
        have cr := (cell_blk hr1.blk (l * 16 + Q)).trans (wcells_row hl16 hQ16)
        have hpl1 := lt_blk hr1.blk
        clear hr1 hfr1 hgr1
        have hPB := HPB.out l hl16
        rw [hQ] at hPB
        have HPB2 := Box.mk hPB
        clear hPB
        have HCOL : Box (Calls Try.prog 41 #[.func (.func 47) #[] #[.pointer (some ⟨wr.heap.size, 0, none⟩)]] (wr.alloc (.cells #[.map (rbx l Q)] 79)).drew fun e w' => ∃ a c ss, e = .returned (.slice a (ss : List Int).length c) ∧ Got wr w' (X.row l Q) a ss ∧ Below wr.heap.size wr w') :=
          ⟨collectAny HR1.out (Fr.below (((Fr.refl (fun _ => False) wr).alloc _).drew) (Nat.le_refl _) (fun _ _ h => h.elim)) hl16 hQ16 (lt_blk (blk_new wr (.cells #[.map (rbx l Q)] 79))) (cell_blk (blk_new wr (.cells #[.map (rbx l Q)] 79)) 0)⟩
        go_cut [39, 40, 41] (fun s39 s40 s41 wx => ∃ (a : Option Addr) (c : Nat) (ss : List Int), s39 = .slice a ss.length c ∧ s40 = .int .i64 ss.length ∧ s41 = .int .i64 0 ∧ Box (Got wr wx (X.row l Q) a ss ∧ Below wr.heap.size wr wx))
        case first =>
          go_region_with (first
            | (go_at_call 40; (with_reducible refine (HPB2.out _).mono ?_); rintro e w1 ⟨rfl, rfl⟩)
            | (go_at_call 42; (with_reducible refine (keysCall _ _).mono ?_); rintro e w2 ⟨rfl, rfl⟩)
            | (go_at_call 41; (with_reducible refine HCOL.out.mono ?_); rintro e w3 ⟨a, c, ss, rfl, hgot, hbel⟩; have HGOT := Box.mk (And.intro hgot hbel); clear hgot hbel))
          all_goals
            go_wp2_with fail
            go_meet
            exact ⟨_, _, _, rfl, rfl, rfl, HGOT⟩
        case rest =>
          obtain ⟨a, c, ss, rfl, rfl, rfl, HGOT⟩ := hcut
          rename World => W2
          have HA2 : Box (WPost W2 p X F1 W2) := ⟨F1, ⟨ab1, rbx, HR1.out.fr (F := F1) (G := fun _ => False) (Fr.of_below HGOT.out.2) (fun _ _ h => h)⟩, Fr.refl _ _, Gro.refl _ _⟩
          have HLB : Box (LevR M n l (Todo l ss 0) X) := ⟨HL.out.begin (by rw [hQ]; exact HGOT.out.1.mem)⟩
          clear HP HCOL cr
          go_wp2
          go_loopw [7, 8, 41] (fun _ _ j wx => ∃ (jn : Nat) (Y : WM), jn ≤ ss.length ∧ j = .int .i64 jn ∧ Box (LevR M n l (Todo l ss jn) Y) ∧ Box (WPost W2 p Y F1 wx)) (fun _ _ j _ => ss.length - (intOf j).toNat)
          case atStart => exact ⟨0, X, by omega, rfl, HLB, HA2⟩
          case round =>
            clear HA2 HLB
            obtain ⟨jn, Y, hjl, rfl, HLY, HPY⟩ := hrel
            by_cases hj : jn < ss.length
            · have hji : (jn : Int) < ss.length := by omega
              obtain ⟨b, cs, hab, hgb, hgl, hblk, hcs⟩ := HGOT.out.1.cell jn hj
              obtain ⟨F', ⟨ab', rb', hr'⟩, hf', hg'⟩ := HPY.out
              have hbF1 : ¬ F1 b := fun h => by have := HR1.out.lt b h; omega
              have cel := (hf'.cell (p := ⟨b, jn, none⟩) hgl hbF1).trans ((cell_blk hblk jn).trans hcs)
              obtain ⟨bv, hbv⟩ := Option.isSome_iff_exists.1 ((HGOT.out.1.mem _).1 (List.getElem_mem hj))
              obtain ⟨-, s0, hxi, hlies, -⟩ := row_some hbv
              obtain ⟨i, hi⟩ : ∃ i, (ss[jn]).toNat = i := ⟨_, rfl⟩
              rw [hi] at hxi hlies
              obtain ⟨s, s', hs, hs', hat⟩ := HLY.out.there (HL.out.was (i := i) (by rw [hlies.1]; simp))
              have hi1 : i < 1000 := by
                rcases Nat.lt_or_ge i 1000 with g | g
                · exact g
                · have := hr'.ids i g; rw [hs'] at this; cases this
              have hsp := hr'.spots i s' hs'
              have hlk := hr'.all.2.2.look Try.underlying3 Try.underlying78 (Try.zeroSpot _) (kwf_of (x := (i : Int)) (by omega) (by omega))
              rw [all_nat, hs'] at hlk
              have cab := (cell_blk hr'.blk 256).trans wcells_all
              have hpl2 := lt_blk hr'.blk
              have HD := Box.mk (drop_any p Y F' i s' _ ⟨ab', rb', hr'⟩ hs')
              have HPUT := Box.mk (fun (w : World) (h : WAt w p (Y.drop i) F') => put_any p (Y.drop i) F' i s'.at' w h hi1 (by simp [WM.drop, updF]) hsp.2.2)
              have HST : Box (LevR M n l (Todo l ss (jn + 1)) ((Y.drop i).put i s'.at')) := ⟨HLY.out.step hj hxi hs hat⟩
              have HF' := Box.mk hf'
              have HG' := Box.mk hg'
              rw [hxi] at cel
              obtain ⟨sa, sl, sq⟩ := s'
              simp only at HPUT HST
              replace hlk : (Instr.lookup 78 (.map (some ab')) (.int .i64 (i : Int)) false).run Try.prog _ = .ok (.agg #[.int .u64 sa, .int .i64 sl, .int .i64 sq]) _ := hlk
              have hfi := field_spot
              have hjb : jn < 9223372036854775807 := by have := HGOT.out.1.len; omega
              subst hab
              clear hr' hf' hg' hs' hs hat hbv hlies hblk hcs hsp hgb hxi hi hbF1
              go_wp2_with (first
                | (go_at_call 32; (with_reducible refine HD.out.mono ?_); rintro e w4 ⟨rfl, hwa, hfa⟩; have HWA := Box.mk hwa; have HFA := Box.mk hfa; clear hwa hfa)
                | (go_at_call 33; (with_reducible refine (HPUT.out _ HWA.out).mono ?_); rintro e w5 ⟨rfl, hp2⟩; have HP2 := Box.mk (WPost.round HF'.out HG'.out HFA.out hp2); clear hp2))
              go_roundw
              case rel => exact ⟨jn + 1, _, by omega, by go_num, HST, HP2⟩
              case measure => simp [intOf] <;> omega
            · have HL2 : Box (LevR M n l (fun _ _ => False) Y) := ⟨HLY.out.end' (by omega)⟩
              have HP2 : Box (WPost w p Y F _) := ⟨WPost.on (X := X) HF1.out HG1.out HGOT.out.2 HPY.out⟩
              have hnj : ¬ (jn : Int) < ss.length := by omega
              go_wp2
              go_roundw
              case rel => exact ⟨l, Y, by omega, by go_num, HL2, HP2⟩
              case measure => simp [intOf] <;> omega

end Go.Proofs.Ytbodnmcaipakcaa
