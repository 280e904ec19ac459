/-
  The walk of cpu's late.
-/
import Derived.Test.YtbedknfapiadbaaCpuF
namespace Go.Proofs.Ytbedknfapiadbaa
open Go.RowKit

/-- What a tick tells, as it lies: its last list is the call's own. -/
def OutAt (w0 w : World) (o : Nat) (A v1 v2 : Value) (l : List Int) : Prop :=
  ∃ a c, w.heap[o]? = some (.cells #[A, v1, v2, .slice a l.length c] 36 (0, 0)) ∧ w.ownsRow w0.heap.size 3 1 (.slice a l.length c) l.length (ints l)
theorem OutAt.fr {w0 w w' : World} {o : Nat} {A v1 v2 : Value} {l : List Int} {F : Nat → Prop} (h : OutAt w0 w o A v1 v2 l) (hf : Fr F w w') (ho : ¬ F o) (hF : ∀ k, w0.heap.size ≤ k → ¬ F k) : OutAt w0 w' o A v1 v2 l := by
  obtain ⟨a, c, hb, hr⟩ := h
  exact ⟨a, c, hf.blk hb ho, ownsRow_fr hr (fun g hg => hf.block g (hr.lt g hg).2 (hF g (hr.lt g hg).1))⟩
theorem OutAt.store {w0 w w3 : World} {o : Nat} {A v1 v2 : Value} {l : List Int} {g n c : Nat} {x : Int} (h : OutAt w0 w o A v1 v2 l) (hb : w3.heap[o]? = w.heap[o]?) (ho : o < w0.heap.size) (hn : l.length = n)
    (hown : w3.ownsRow w0.heap.size 3 1 (.slice (some ⟨g, 0, none⟩) (n + 1) c) (n + 1) (ints l ++ [.int .i64 x])) : OutAt w0 (w3.setCell ⟨o, 3, none⟩ (.slice (some ⟨g, 0, none⟩) (n + 1) c)) o A v1 v2 (l ++ [x]) := by
  obtain ⟨a, c0, hblk, _⟩ := h
  rw [← hb] at hblk
  have h2 := blk_set (i := 3) hblk (.slice (some ⟨g, 0, none⟩) (n + 1) c)
  simp only [List.setIfInBounds_toArray, List.set_cons_succ, List.set_cons_zero] at h2
  have hgo : g ≠ o := by have := (hown.lt g rfl).1; omega
  have hl : (l ++ [x]).length = n + 1 := by simp [hn]
  refine ⟨some ⟨g, 0, none⟩, c, by rw [hl]; exact h2, ?_⟩
  rw [hl, show ints (l ++ [x]) = ints l ++ [.int .i64 x] from by simp]
  exact ownsRow_fr hown (fun k hk => by
    have : k = g := by simpa [Value.ownBlock] using hk.symm
    subst this
    exact blk_set_ne _ hgo)

set_option maxHeartbeats 8000000 in
theorem late_any (y : Lay) (M : CpuM) (o : Nat) (A v1 v2 : Value) (w : World) (h : CpuAt w y M) (ho : y.own o = none) (hob : w.heap[o]? = some (.cells #[A, v1, v2, .slice none 0 0] 36 (0, 0))) (hlen : M.tasks.length ≤ 1000) :
    Calls Try.prog 41 #[.pointer (some ⟨y.c, 0, none⟩), .pointer (some ⟨o, 0, none⟩)] w fun e w' => e = .returned (.tuple #[]) ∧ CpuAt w' y { M with tasks := M.tasks.map (fun t => t.late M.now) } ∧
      OutAt w w' o A v1 v2 (lateIds M.now M.tasks M.tasks.length) ∧ Fr (fun k => y.own k ≠ none ∨ k = o) w w' := by
  obtain ⟨T, S, rs, now⟩ := M
  simp only at hlen
  have H := Box.mk h
  have hol := lt_blk hob
  have HO := Box.mk ho
  have hout : OutAt w w o A v1 v2 (lateIds now T 0) := ⟨none, 0, hob, World.ownsRow_nil _ _ _ _⟩
  have HOUT := Box.mk hout
  have c0 := h.c0
  simp only at c0
  obtain ⟨n, hn⟩ : ∃ n, T.length = n := ⟨_, rfl⟩
  have HN := Box.mk hn
  rw [hn] at c0 hlen
  obtain ⟨i0, hi, hz0, hz1, hz2⟩ := info_parts Try.infoInt
  clear h hn hob ho hout
  go_enter Try.func41, Try.ntmps41
  go_wp2
  clear c0
  go_loopw [4, 5, 11] (fun _ _ i wr => ∃ k : Nat, k ≤ n ∧ i = .int .i64 k ∧ CpuAt wr y ⟨lateT now T k, S, rs, now⟩ ∧ OutAt w wr o A v1 v2 (lateIds now T k) ∧ Fr (fun k => y.own k ≠ none ∨ k = o) w wr) (fun _ _ i _ => n - (intOf i).toNat)
  case atStart => exact ⟨0, Nat.zero_le _, rfl, H.out, HOUT.out, Fr.refl _ _⟩
  case round =>
    obtain ⟨k, hk, rfl, hat, hou, hfr⟩ := hrel
    have HAT := Box.mk hat
    have HOU := Box.mk hou
    have HFR := Box.mk hfr
    clear hou hfr
    by_cases hlt : k < n
    · obtain ⟨t, ht⟩ : ∃ t, T[k]? = some t := ⟨T[k]'(by have := HN.out; omega), by simp [HN.out, hlt]⟩
      have ht2 := lateT_get (now := now) ht
      have HT := Box.mk ht
      have HT2 := Box.mk ht2
      have hll : (lateT now T k).length = n := (lateT_len now T k).trans HN.out
      obtain ⟨g, hg, _, hnc, hc, hcell⟩ := hat.tarr.get (i := k) (by show k < (lateT now T k).length; omega)
      simp only at hg hcell hnc hc
      rw [hll] at hnc
      have hc3 := hat.c3
      simp only at hc3
      obtain ⟨hto, htb, hja⟩ := hat.task k t ht2
      have e4 := cell_blk htb 4
      simp only [List.getElem?_toArray, List.getElem?_cons_zero, List.getElem?_cons_succ] at e4
      have HJA := Box.mk hja
      have HTO := Box.mk hto
      rw [hg]
      clear hat ht ht2 hll htb hja hto
      obtain ⟨wk, jb, bg, ls⟩ := t
      simp only at e4 HJA
      -- nobody is late here
      have same : ∀ t', t' = (⟨wk, jb, bg, ls⟩ : TaskM) → t'.isLate now = false → Box (lateT now T (k + 1) = lateT now T k ∧ lateIds now T (k + 1) = lateIds now T k) := by
        rintro t' rfl hl
        refine ⟨⟨?_, ?_⟩⟩
        · rw [lateT_next HT.out, TaskM.late, if_neg (by simp [hl])]
          apply List.ext_getElem?
          intro j
          rw [List.getElem?_set]
          split
          · rename_i e; subst e; rw [if_pos (by rw [lateT_len, HN.out]; exact hlt), HT2.out]
          · rfl
        · rw [lateIds, HT.out]
          simp [hl]
      cases jb with
      | none =>
        have HS := same _ rfl rfl
        simp only [jobV] at e4
        clear same
        go_upto_region 3 with fail
        go_quiet (fail)
        go_wp2
        go_roundw
        case rel => exact ⟨k + 1, by omega, by go_num, by rw [HS.out.1]; exact HAT.out.fr (F := fun _ => False) ((Fr.refl _ _).drewN _) (fun _ _ h => h), by rw [HS.out.2]; exact HOU.out.fr (F := fun _ => False) ((Fr.refl _ _).drewN _) (fun h => h) (fun _ _ h => h), HFR.out.drewN _⟩
        case measure => simp [intOf] <;> omega
      | some j =>
        obtain ⟨de, ra, dd, mi⟩ := j
        simp only [jobV] at e4
        obtain ⟨hjo, hjb⟩ := HJA.out
        have j2 := cell_blk hjb 2
        have j3 := cell_blk hjb 3
        simp only [List.getElem?_toArray, List.getElem?_cons_zero, List.getElem?_cons_succ] at j2 j3
        cases mi with
        | true =>
          have HS := same _ rfl rfl
          clear same hjb
          go_upto_region 3 with fail
          go_quiet (fail)
          go_wp2
          go_roundw
          case rel => exact ⟨k + 1, by omega, by go_num, by rw [HS.out.1]; exact HAT.out.fr (F := fun _ => False) ((Fr.refl _ _).drewN _) (fun _ _ h => h), by rw [HS.out.2]; exact HOU.out.fr (F := fun _ => False) ((Fr.refl _ _).drewN _) (fun h => h) (fun _ _ h => h), HFR.out.drewN _⟩
          case measure => simp [intOf] <;> omega
        | false =>
          by_cases hd : dd ≤ now
          · have hl : (⟨wk, some ⟨de, ra, dd, false⟩, bg, ls⟩ : TaskM).isLate now = true := by simp [TaskM.isLate, hd]
            have hdi : (dd : Int) ≤ now := by omega
            go_upto_region 3 with fail
            go_quiet (fail)
            go_upto_region 4 with fail
            have HS : Box (lateT now T (k + 1) = (lateT now T k).set k ⟨wk, some ⟨de, ra, dd, true⟩, bg, ls⟩ ∧ lateIds now T (k + 1) = lateIds now T k ++ [(k : Int)]) := ⟨by
              constructor
              · rw [lateT_next HT.out, TaskM.late, if_pos hl]; rfl
              · rw [lateIds, HT.out]; simp only [hl]; rfl⟩
            have HA2 := Box.mk (HAT.out.fr (F := fun _ => False) ((Fr.refl _ wr).drewN nq) (fun _ _ h => h))
            have HO2 := Box.mk (HOU.out.fr (F := fun _ => False) ((Fr.refl _ wr).drewN nq) (fun h => h) (fun _ _ h => h))
            have HF2 := Box.mk (HFR.out.drewN nq)
            clear same hjb hd hl j2 j3 e4 hcell hc3
            generalize wr.drewN nq = V at HA2 HO2 HF2 ⊢
            obtain ⟨_, htb, hja⟩ := HA2.out.task k _ HT2.out
            have e4 := cell_blk htb 4
            have hjb := hja.2
            have j3 := cell_blk hjb 3
            have f3 := free_blk hjb 3
            simp only [List.getElem?_toArray, List.getElem?_cons_zero, List.getElem?_cons_succ, jobV] at e4 j3
            have hjlt := H.out.lt (y.jp k) (by rw [hjo]; simp)
            have hfs : Fr (fun b => b = y.jp k) V (V.setCell ⟨y.jp k, 3, none⟩ (.bool true)) := Fr.setCell (F := fun b => b = y.jp k) (Fr.refl _ V) (p := ⟨y.jp k, 3, none⟩) (.inl rfl) _
            have hb3 := blk_set (i := 3) hjb (.bool true)
            simp only [List.setIfInBounds_toArray, List.set_cons_succ, List.set_cons_zero] at hb3
            have HA3 := Box.mk (HA2.out.job_upd (j' := ⟨de, ra, dd, true⟩) HT2.out rfl hfs hb3)
            have hoj : o ≠ y.jp k := by intro e; have := HO.out; rw [e, hjo] at this; cases this
            have HO3 := Box.mk (HO2.out.fr hfs hoj (fun b hb e => by omega))
            have HF3 := Box.mk (HF2.out.trans (hfs.mono (fun b _ e => by subst e; exact .inl (by rw [hjo]; simp))))
            clear htb hja hjb hb3 hfs
            go_upto_region 5 with fail
            clear e4 j3 f3
            generalize V.setCell ⟨y.jp k, 3, none⟩ (.bool true) = V1 at HA3 HO3 HF3 ⊢
            obtain ⟨a, c, hblk, hown⟩ := HO3.out
            have x3 := cell_blk hblk 3
            have f3 := free_blk hblk 3
            simp only [List.getElem?_toArray, List.getElem?_cons_zero, List.getElem?_cons_succ] at x3
            have hll := lateIds_len now T k
            obtain ⟨m, hm⟩ : ∃ m, (lateIds now T k).length = m := ⟨_, rfl⟩
            have HM := Box.mk hm
            rw [hm] at x3 hll hown
            have HOWN := Box.mk hown
            have HX3 := Box.mk x3
            have HFF := Box.mk f3
            have hsz := HF3.out.size
            have hol1 : o < V1.heap.size := by omega
            clear hblk hown hm
            go_wp2_with (at_builtin; refine wpList_append_lies _ rfl (.tmp 55) (.tmp 57) 34 rfl w.heap.size 3 i0 (.int .i64 0) 1 8 Try.underlying34 hi hz0 hz1 hz2 rfl (by decide) (.slice a m c) m (ints (lateIds now T k)) rfl (HOWN.out.alloc _) ⟨V1.heap.size, 0, none⟩ 1 1 [.int .i64 k] rfl rfl (World.news_of_block (cs := #[.int .i64 k]) (blk_new _ _)) ?h1 (by omega) ?b1 ?b2 ?b3 _ rfl ?next)
            case h1 => simp [Value.oneCell']
            case b1 => unfold maxLen; omega
            case b2 => omega
            case b3 => first | omega | (simp; omega)
            case next =>
              intro g3 c3 w3 ho3 hg3 _ _
              have hfg : Fr (fun b => w.heap.size ≤ b) V1 w3 := Fr.grown ((Fr.refl _ V1).alloc _) hg3 (fun b e => .inl (HOWN.out.lt b e).1)
              have HA4 := Box.mk (HA3.out.fr hfg (fun b hb => by have := H.out.lt b hb; omega))
              have x4 := (hfg.cell (p := ⟨o, 3, none⟩) hol1 (by show ¬ w.heap.size ≤ o; omega)).trans HX3.out
              have f4 := (hfg.frozen (p := ⟨o, 3, none⟩) hol1 (by show ¬ w.heap.size ≤ o; omega)).trans HFF.out
              have HO4 := Box.mk (HO3.out.store (w3 := w3) (hfg.block o hol1 (by omega)) hol HM.out ho3)
              have HF4 := Box.mk (HF3.out.trans' hfg (fun b hb e => by omega))
              clear ho3 hg3 hfg
              go_wp2
              go_roundw
              case rel => exact ⟨k + 1, by omega, by go_num, by rw [HS.out.1]; exact HA4.out.fr (F := fun b => b = o) (Fr.setCell (F := fun b => b = o) (Fr.refl _ w3) (p := ⟨o, 3, none⟩) (.inl rfl) _) (fun b hb e => by subst e; exact hb HO.out), by rw [HS.out.2]; exact HO4.out, HF4.out.trans (Fr.setCell (F := fun k => y.own k ≠ none ∨ k = o) (Fr.refl _ w3) (p := ⟨o, 3, none⟩) (.inl (.inr rfl)) _)⟩
              case measure => simp [intOf] <;> omega
          · have HS := same _ rfl (by simp [TaskM.isLate, hd])
            have hdi : ¬ (dd : Int) ≤ now := by omega
            clear same hjb hd
            go_upto_region 3 with fail
            go_quiet (fail)
            go_wp2
            go_roundw
            case rel => exact ⟨k + 1, by omega, by go_num, by rw [HS.out.1]; exact HAT.out.fr (F := fun _ => False) ((Fr.refl _ _).drewN _) (fun _ _ h => h), by rw [HS.out.2]; exact HOU.out.fr (F := fun _ => False) ((Fr.refl _ _).drewN _) (fun h => h) (fun _ _ h => h), HFR.out.drewN _⟩
            case measure => simp [intOf] <;> omega
    · obtain rfl : n = k := by omega
      have HE : Box (lateT now T n = T.map (fun t => t.late now)) := ⟨by rw [← HN.out]; exact lateT_all now T⟩
      clear hat
      go_wp2
      go_end0
      exact ⟨rfl, by have := HAT.out; rwa [HE.out] at this, by rw [HN.out]; exact HOU.out, HFR.out⟩

end Go.Proofs.Ytbedknfapiadbaa
