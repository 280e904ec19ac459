/-
  The walk of a book's sorted.
-/
import Derived.Test.YtbodnmcaipakcaaLiH
namespace Go.Proofs.Ytbodnmcaipakcaa
open Go.RowKit Go.ChangeMaps Go.MapKept

theorem op_blt {op : Int → Option Ent} {x y : Int} {ex ey : Ent} (hx : op x = some ex) (hy : op y = some ey) {v : Bool} (hv : bltB ex.dead x ey.dead y = v) : (v = true → oLt op x y) ∧ (v = false → ¬ oLt op x y) := by
  have h := blt_iff hx hy
  rw [hv] at h
  exact ⟨fun e => h.1 e, fun e hc => by rw [h.2 hc] at e; cases e⟩
theorem CellsL.blk2 {w : World} {g k : Nat} {l : List Int} (h : ∃ cs, w.heap[g]? = some (.cells cs 3 (0, 0)) ∧ CellsL cs l) (hk : k < l.length) : w.cell? ⟨g, k, none⟩ = some (.int .i64 l[k]) ∧ w.frozen? ⟨g, k, none⟩ = false := by
  obtain ⟨cs, h1, h2⟩ := h
  exact ⟨(cell_blk h1 k).trans (h2 k hk), free_blk h1 k⟩
/-- What sorted tells. -/
def SortR (w : World) (op : Int → Option Ent) (L0 : List Int) (n : Nat) (e : Ending) (w' : World) : Prop := ∃ (l : List Int) (g c : Nat), e = .returned (.slice (some ⟨g, 0, none⟩) n c) ∧ l.Perm L0 ∧ SInv op n l ∧ w.heap.size ≤ g ∧ (∃ cs, w'.heap[g]? = some (.cells cs 3 (0, 0)) ∧ CellsL cs l) ∧ Below w.heap.size w w'
def intV (l : List Int) : List Value := l.map (Value.int .i64)
set_option maxHeartbeats 16000000 in
set_option maxRecDepth 100000 in
theorem bsorted_any (w : World) (p cost now : Nat) (gg : Nat → Option Nat) (op : Int → Option Ent) (ids : Nat → Int) (us : Nat → Bool) (fs : List FateM) (nn pw ab : Nat) (Fw : Nat → Prop) (fv : Value) (h : BRep w p cost now gg op ids us fs nn pw ab Fw fv)
    (va : Option Addr) (vc n : Nat) (D : List Nat) (hDn : D.length = n) (B0 : Nat) (hD : OutAt B0 w (.slice va n vc) D) (hD2 : ∀ t ∈ D, t < 64 ∧ ∃ e, op (ids t) = some e ∧ kwf (ids t)) (hnd : (D.map ids).Nodup) (hlen : n ≤ 1000) :
    Calls Try.prog 29 #[.pointer (some ⟨p, 0, none⟩), .slice va n vc] w (SortR w op (D.map ids) n) := by
  have HROW : Box (∀ j (hj : j < D.length), ∃ b off, va = some ⟨b, off, none⟩ ∧ b < w.heap.size ∧ w.cell? ⟨b, off + j, none⟩ = some (.int .i64 (D[j] : Nat))) := ⟨fun j hj => by
    have hr := hD.rowAt
    rw [hDn] at hr hj
    rcases hr.2 with ⟨_, h0⟩ | ⟨b, off, cap, e, _, _, _, hb, hc⟩
    · omega
    · injection e with e1 _ _
      refine ⟨b, off, e1, hb, hc j _ ?_⟩
      simp [ints', hDn, hj]⟩
  have HMK : Box (∀ w, (Instr.makeSlice 73 (.int .i64 0) (.int .i64 (n : Int))).run Try.prog w = .ok (.slice (some ⟨w.heap.size, 0, none⟩) 0 n) (w.alloc (.cells (madeCells #[Value.int .i64 0] n) 3))) := ⟨fun w => by
    obtain ⟨i0, hi, hz0, hz1, hz2⟩ := info_parts Try.infoInt
    have hr := run_make (P := Try.prog) w 73 3 i0 _ Try.underlying73 hi hz0 .i64 .i64 0 n (by omega) (by omega) (by rw [hz2]; omega) (by omega)
    have hcl : (Value.int .i64 0).cells = #[Value.int .i64 0] := by simp [Value.cells]
    simp only [Int.toNat_natCast, hz1, hcl, Nat.mul_one] at hr
    exact hr⟩
  obtain ⟨L0, hL0⟩ : ∃ L0, D.map ids = L0 := ⟨_, rfl⟩
  have HLL : Box (∀ j (hj : j < D.length), ∃ hj' : j < L0.length, L0[j] = ids D[j]) := ⟨fun j hj => by subst hL0; exact ⟨by simpa using hj, by simp⟩⟩
  have hln0 : L0.length = n := by rw [← hL0, List.length_map]; exact hDn
  have HLN := Box.mk hln0
  have HDO : Box (∀ x ∈ L0, ∃ e, op x = some e ∧ kwf x) := ⟨fun x hx => by
    rw [← hL0] at hx
    obtain ⟨t, ht, rfl⟩ := List.mem_map.1 hx
    obtain ⟨_, e, h1, h2⟩ := hD2 t ht
    exact ⟨e, h1, h2⟩⟩
  rw [hL0] at hnd ⊢
  clear hL0 hln0
  have HD := Box.mk hD2
  have HND := Box.mk hnd
  have HDN := Box.mk hDn
  have H := Box.mk h
  have HPL := Box.mk (lt_blk h.blk)
  obtain ⟨i0, hi0, hz0, hz1, hz2⟩ := info_parts Try.infoInt
  clear hD2 hnd hDn hD h
  have hmk := HMK.out
  go_enter Try.func29, Try.ntmps29
  go_upto_block 0 with fail
  clear hmk
  have HO0 : Box ((w.alloc (.cells (madeCells #[Value.int .i64 0] n) 3)).ownsRow w.heap.size 3 1 (.slice (some ⟨w.heap.size, 0, none⟩) 0 n) 0 []) := ⟨⟨by simp, .inr ⟨w.heap.size, n, _, rfl, Nat.le_refl _, heap_alloc_new w _, Nat.zero_le _, by unfold maxLen; omega, by simp [madeCells], by simp⟩⟩⟩
  have HB0 : Box (Below w.heap.size w (w.alloc (.cells (madeCells #[Value.int .i64 0] n) 3))) := ⟨(Below.refl _ _).alloc (Nat.le_refl _) _⟩
  obtain ⟨B1, hB1⟩ : ∃ B1, w.heap.size = B1 := ⟨_, rfl⟩
  have HB1 := Box.mk hB1
  generalize w.alloc (.cells (madeCells #[Value.int .i64 0] n) 3) = w1 at HO0 HB0 ⊢
  rw [hB1] at HO0 ⊢
  clear hB1
  go_wp2
  go_loopw [5, 7, 15] (fun s5 _ s15 wr => ∃ (j g c : Nat), j ≤ n ∧ s15 = .int .i64 j ∧ s5 = .slice (some ⟨g, 0, none⟩) j c ∧ Box (wr.ownsRow B1 3 1 (.slice (some ⟨g, 0, none⟩) j c) j (intV (L0.take j))) ∧ Box (Below w.heap.size w wr)) (fun _ _ s15 _ => n - (intOf s15).toNat)
  case atStart => exact ⟨0, B1, n, by omega, rfl, rfl, HO0, HB0⟩
  case round =>
    clear HO0 HB0
    obtain ⟨j, g, c, hjn, rfl, rfl, HO, HB⟩ := hrel
    by_cases hj : j < n
    · have hji : (j : Int) < n := by omega
      have hjD : j < D.length := by rw [HDN.out]; exact hj
      obtain ⟨b, off, hva, hbw, hcell⟩ := HROW.out j hjD
      have cx := (HB.out.cell (p := ⟨b, off + j, none⟩) hbw).trans hcell
      have ht := (HD.out D[j] (List.getElem_mem hjD)).1
      obtain ⟨hjL, hjv⟩ := HLL.out j hjD
      have hTK : intV (L0.take (j + 1)) = intV (L0.take j) ++ [.int .i64 (ids D[j])] := by
        unfold intV
        rw [List.take_succ_eq_append_getElem hjL, List.map_append, hjv]; rfl
      obtain ⟨t, hte⟩ : ∃ t, D[j] = t := ⟨_, rfl⟩
      rw [hte] at cx ht hTK
      have cy := (HB.out.cell (p := ⟨p, 3 + t, none⟩) HPL.out).trans (H.out.cIds ht)
      have HTK := Box.mk hTK
      have hti : (t : Int) < 64 := by omega
      have HOL := Box.mk (fun k hk => ownsRow_lt HO.out (g := k) hk)
      have hbs : B1 ≤ wr.heap.size := by have := HB.out.size; have := HB1.out; omega
      rw [hva]
      clear hcell hTK hte hjD hjL hjv
      go_wp2_with (at_builtin; refine wpList_append_lies _ rfl (.tmp 19) (.tmp 26) 73 rfl B1 3 i0 (.int .i64 0) 1 8 Try.underlying73 hi0 hz0 hz1 hz2 rfl (by decide) (.slice (some ⟨g, 0, none⟩) j c) j (intV (L0.take j)) rfl (HO.out.alloc _) ⟨wr.heap.size, 0, none⟩ 1 1 [.int .i64 (ids t)] rfl rfl (World.news_of_block (cs := #[.int .i64 (ids t)]) (blk_new _ _)) ?h1 (by omega) ?b1 ?b2 ?b3 _ rfl ?next)
      case h1 => simp [Value.oneCell']
      case b1 => unfold maxLen; omega
      case b2 => omega
      case b3 => simp; omega
      case next =>
        intro g3 c3 w3 ho3 hg3 _ _
        have HO3 : Box (w3.ownsRow B1 3 1 (.slice (some ⟨g3, 0, none⟩) (j + 1) c3) (j + 1) (intV (L0.take (j + 1)))) := ⟨by rw [HTK.out]; exact ho3⟩
        have HB3 : Box (Below w.heap.size w w3) := ⟨(HB.out.alloc HB.out.size _).grown hg3 (by have := HB.out.size; simp; omega) (fun k hk => by have := (HOL.out k hk).1; have := HB1.out; omega)⟩
        clear ho3 hg3
        go_wp2
        go_roundw
        case rel => exact ⟨j + 1, g3, c3, by omega, by go_num, rfl, HO3, HB3⟩
        case measure => simp [intOf] <;> omega
    · obtain rfl : j = n := by omega
      have hji : ¬ (j : Int) < j := by omega
      have htk : L0.take j = L0 := List.take_of_length_le (by rw [HLN.out]; exact Nat.le_refl _)
      have hg1 : B1 ≤ g := (ownsRow_lt HO.out (g := g) (by simp [Value.ownBlock])).1
      have HCS : Box (∃ cs, wr.heap[g]? = some (.cells cs 3 (0, 0)) ∧ CellsL cs L0) := ⟨by
        obtain ⟨-, hnil | ⟨g', cap, cur, hv, _, hblk, _, _, _, htk2⟩⟩ := HO.out
        · exact absurd hnil.1 (by simp)
        · injection hv with e1 _ _
          injection e1 with e1
          injection e1 with e1
          subst e1
          refine ⟨cur, hblk, fun i hi => ?_⟩
          rw [htk] at htk2
          have hi' : i < j := by rw [HLN.out] at hi; exact hi
          have e2 : (cur.toList.take (j * 1))[i]? = (intV L0)[i]? := by rw [htk2]
          unfold intV at e2
          rw [List.getElem?_take, if_pos (by omega), List.getElem?_map, List.getElem?_eq_getElem hi] at e2
          rw [← Array.getElem?_toList]
          exact e2⟩
      clear htk HO
      have HGB := Box.mk hg1
      have HB2 := HB
      have HP0 : Box (L0.Perm L0 ∧ SInv op 0 L0) := ⟨List.Perm.refl _, fun a b _ _ _ h => by omega⟩
      go_upto_block 2 with fail
      go_wp2
      go_loopw [8, 9, 31] (fun _ _ s31 wr => ∃ (i : Nat) (l : List Int), i ≤ j ∧ s31 = .int .i64 i ∧ Box (l.Perm L0 ∧ SInv op i l) ∧ Box (∃ cs, wr.heap[g]? = some (.cells cs 3 (0, 0)) ∧ CellsL cs l) ∧ Box (Below w.heap.size w wr)) (fun _ _ s31 _ => j - (intOf s31).toNat)
      case atStart => exact ⟨0, L0, by omega, rfl, HP0, HCS, HB2⟩
      case round =>
        clear HP0 HCS HB2 HB
        obtain ⟨i, l, hij, rfl, HP, HCS, HB⟩ := hrel
        have hll : l.length = j := by rw [HP.out.1.length_eq]; exact HLN.out
        have HLL2 := Box.mk hll
        clear hll
        by_cases hi : i < j
        · have hii : (i : Int) < j := by omega
          have HK0 : Box (l.Perm L0 ∧ KInv op i i l) := ⟨HP.out.1, KInv.start HP.out.2⟩
          go_upto_block 4 with fail
          go_wp2
          go_loopw [9] (fun s9 wr => ∃ (k : Nat) (l : List Int), k ≤ i ∧ s9 = .int .i64 k ∧ Box (l.Perm L0 ∧ KInv op i k l) ∧ Box (∃ cs, wr.heap[g]? = some (.cells cs 3 (0, 0)) ∧ CellsL cs l) ∧ Box (Below w.heap.size w wr)) (fun s9 _ => (intOf s9).toNat)
          case atStart => exact ⟨i, l, Nat.le_refl _, rfl, HK0, HCS, HB⟩
          case round =>
            clear HK0 HCS HB HP HLL2
            obtain ⟨k, l, hki, rfl, HP, HCS, HB⟩ := hrel
            have hll : l.length = j := by rw [HP.out.1.length_eq]; exact HLN.out
            have HLL2 := Box.mk hll
            clear hll
            have HDR : Box (∀ m, Below w.heap.size w (wr.drewN m)) := ⟨fun m => HB.out.trans ⟨rfl, rfl, rfl, Nat.le_refl _, fun _ _ => rfl⟩⟩
            have HCR : Box (∀ m, ∃ cs, (wr.drewN m).heap[g]? = some (.cells cs 3 (0, 0)) ∧ CellsL cs l) := ⟨fun _ => HCS.out⟩
            by_cases hk0 : k = 0
            · subst hk0
              have HP2 : Box (l.Perm L0 ∧ SInv op (i + 1) l) := ⟨HP.out.1, HP.out.2.zero⟩
              go_upto_region 11 with fail
              go_quiet (fail)
              have HB2 := Box.mk (HDR.out nq)
              have HC2 := Box.mk (HCR.out nq)
              go_wp2
              go_roundw
              case rel => exact ⟨i + 1, l, by omega, by go_num, HP2, HC2, HB2⟩
              case measure => simp [intOf] <;> omega
            · obtain ⟨k', hk'⟩ : ∃ k', k = k' + 1 := ⟨k - 1, by omega⟩
              have HK' := Box.mk hk'
              have hkl : k < l.length := by rw [HLL2.out]; omega
              have hkl' : k' < l.length := by omega
              have cx := (CellsL.blk2 HCS.out hkl).1
              have cy := (CellsL.blk2 HCS.out hkl').1
              have fx := (CellsL.blk2 HCS.out hkl).2
              have fy := (CellsL.blk2 HCS.out hkl').2
              obtain ⟨ex, ox, kx⟩ := HDO.out l[k] (HP.out.1.mem_iff.1 (List.getElem_mem hkl))
              obtain ⟨ey, oy, ky⟩ := HDO.out l[k'] (HP.out.1.mem_iff.1 (List.getElem_mem hkl'))
              obtain ⟨v, hv⟩ : ∃ v, bltB ex.dead l[k] ey.dead l[k'] = v := ⟨_, rfl⟩
              have HBF := Box.mk (fun m => bbefore_any (wr.drewN m) p _ _ _ _ _ _ _ _ _ _ _ _ (H.out.later (HDR.out m)) l[k] l[k'] kx ky ex ey ox oy v hv)
              have HV := Box.mk (op_blt ox oy hv)
              have hsum : IntKind.i64.wrap ((k : Int) - 1) = (k' : Int) := by rw [IntWalk.i64_in _ (by omega)]; omega
              have hk1 : (0 : Int) < (k : Int) := by omega
              have hk1n : 0 < k := by omega
              have hkj : (k : Int) < (j : Int) := by omega
              have hkj' : (k' : Int) < (j : Int) := by omega
              have hk'0 : (0 : Int) ≤ (k' : Int) := by omega
              have hsub : (k : Int) - 1 = (k' : Int) := by omega
              have HSTP : Box ((v = true → l.Perm L0 ∧ ∃ h : k' + 1 < l.length, (swp l k' h).Perm L0 ∧ KInv op i k' (swp l k' h)) ∧ (v = false → l.Perm L0 ∧ SInv op (i + 1) l)) := ⟨by
                subst hk'
                refine ⟨fun e => ⟨HP.out.1, hkl, (swp_perm l k' hkl).trans HP.out.1, HP.out.2.step (by omega) hkl (HV.out.1 e)⟩, fun e => ⟨HP.out.1, HP.out.2.stop (HP.out.1.nodup_iff.2 HND.out) (by omega) hkl (HV.out.2 e)⟩⟩⟩
              have HSW : Box (∀ W : World, (∃ cs, W.heap[g]? = some (.cells cs 3 (0, 0)) ∧ CellsL cs l) → ∀ h : k' + 1 < l.length, ∃ cs', (((W.setCell ⟨g, k, none⟩ (.int .i64 l[k'])).setCell ⟨g, k', none⟩ (.int .i64 l[k])).drew).heap[g]? = some (.cells cs' 3 (0, 0)) ∧ CellsL cs' (swp l k' h)) := ⟨by
                subst hk'
                rintro W ⟨cs, h1, h2⟩ h
                exact ⟨_, blk_set (blk_set h1 _) _, h2.swp h⟩⟩
              clear hk' ox oy kx ky hv hk0
              obtain ⟨x, hxe⟩ : ∃ x, l[k] = x := ⟨_, rfl⟩
              obtain ⟨y, hye⟩ : ∃ y, l[k'] = y := ⟨_, rfl⟩
              rw [hxe] at cx HBF HSW
              rw [hye] at cy HBF HSW
              have HXE := Box.mk hxe
              have HYE := Box.mk hye
              clear hxe hye
              cases v with
              | false =>
                have HS := Box.mk (HSTP.out.2 rfl)
                go_upto_region 11 with fail
                go_quiet ((go_at_call 39; exact Calls.quiet_of (HBF.out _)))
                have HB2 := Box.mk (HDR.out nq)
                have HC2 := Box.mk (HCR.out nq)
                go_wp2
                go_roundw
                case rel => exact ⟨i + 1, l, by omega, by go_num, HS, HC2, HB2⟩
                case measure => simp [intOf] <;> omega
              | true =>
                obtain ⟨hsp, hsk, hsp2, hsk2⟩ := HSTP.out.1 rfl
                have HS := Box.mk (And.intro hsp2 hsk2)
                go_upto_region 11 with fail
                go_quiet ((go_at_call 39; exact Calls.quiet_of (HBF.out _)))
                have HB2 := Box.mk (HDR.out nq)
                have HC2 := Box.mk (HCR.out nq)
                generalize wr.drewN nq = w5 at HB2 HC2 ⊢
                have cx5 := (CellsL.blk2 HC2.out (k := k) (by rw [HLL2.out]; omega)).1
                have cy5 := (CellsL.blk2 HC2.out (k := k') (by rw [HLL2.out]; omega)).1
                have fx5 := (CellsL.blk2 HC2.out (k := k) (by rw [HLL2.out]; omega)).2
                have fy5 := (CellsL.blk2 HC2.out (k := k') (by rw [HLL2.out]; omega)).2
                have HW5 := Box.mk (HSW.out w5 HC2.out hsk)
                have hwg : w.heap.size ≤ g := by have := HGB.out; have := HB1.out; omega
                have HB5 : Box (Below w.heap.size w (((w5.setCell ⟨g, k, none⟩ (.int .i64 y)).setCell ⟨g, k', none⟩ (.int .i64 x)).drew)) := ⟨((HB2.out.setCell (p := ⟨g, k, none⟩) hwg _).setCell (p := ⟨g, k', none⟩) hwg _).drew⟩
                have hne : ¬ k = k' := by have := HK'.out; omega
                rw [HXE.out] at cx5
                rw [HYE.out] at cy5
                clear cx cy fx fy HBF HV hsp hsp2 hsk2 HSW hwg
                go_upto_region 13 with fail
                go_region
                all_goals
                  go_wp2
                  go_roundw
                  case rel => exact ⟨k', _, by omega, by rw [← hsub], HS, HW5, HB5⟩
                  case measure => simp [intOf] <;> omega
        · obtain rfl : i = j := by omega
          have hii : ¬ (i : Int) < i := by omega
          go_wp2
          go_ret
          exact ⟨l, g, _, rfl, HP.out.1, HP.out.2, by rw [HB1.out]; exact HGB.out, HCS.out, HB.out⟩

end Go.Proofs.Ytbodnmcaipakcaa
