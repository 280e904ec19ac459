/-
  The walk of Go.
-/
import Derived.Test.YtbodnmcaipakcaaWhM
import Derived.Test.YtbodnmcaipakcaaTimL
namespace Go.Proofs.Ytbodnmcaipakcaa
open Go.RowKit Go.ChangeMaps Go.MapKept
theorem Try.infoInt : (Try.prog.info? 3).map (fun i => (i.zero, i.size, i.bytes)) = some (some (.int .i64 0), 1, 8) := by kernel_rfl
theorem blk_new2 (w : World) (o1 o2 : Obj) : ((w.alloc o1).alloc o2).heap[w.heap.size + 1]? = some o2 := by
  have := blk_new (w.alloc o1) o2
  rwa [show (w.alloc o1).heap.size = w.heap.size + 1 from by simp] at this
theorem due_moved (M : WM) (a : Nat) : (M.moved a).due a = M.due a := by
  unfold WM.due
  congr 1
  funext i
  show (match (M.f i).map (fun s => spotOf s.at' a) with | some s => decide (s.at' = a) | none => false) = _
  cases M.f i <;> rfl
theorem Picked.len {M : WM} {a : Nat} {left : Int → Bool} {ss : List Int} (h : Picked M a left ss) (hids : ∀ i, 1000 ≤ i → M.f i = none) : ss.length ≤ 1000 := by
  have e := len_eq_of_mem h.1 (ints'_nodup (idsOf_nodup (fun i => decide ((i : Int) ∈ ss)))) (fun x => by
    rw [ints'_mem, idsOf_mem]
    constructor
    · intro hx
      obtain ⟨_, s, h1, _⟩ := (h.2 x).1 hx
      obtain ⟨e1, e2⟩ := all_some h1
      refine ⟨by omega, ?_, ?_⟩
      · rcases Nat.lt_or_ge x.toNat 1000 with g | g
        · exact g
        · rw [hids _ g] at e2; cases e2
      · rw [← e1]; simpa using hx
    · rintro ⟨h0, _, h2⟩
      have e1 : ((x.toNat : Nat) : Int) = x := by omega
      rw [e1] at h2
      simpa using h2)
  rw [e]
  exact keysLen _
theorem Picked.none {M : WM} {a : Nat} : Picked M a (fun x => (M.all x).isSome) [] := ⟨List.nodup_nil, fun x => ⟨fun h => (by cases h), fun ⟨h1, s, h2, _⟩ => by simp only [h2] at h1; cases h1⟩⟩
/-- What Go has told, as it lies. -/
def OutAt (B : Nat) (w : World) (v : Value) (out : List Nat) : Prop := ∃ (a : Option Addr) (c : Nat), v = .slice a out.length c ∧ w.ownsRow B 3 1 v out.length ((ints' out).map (Value.int .i64))
def nowOf (p : Nat) (w : World) : Nat := match w.cell? ⟨p, 257, none⟩ with
  | some (.int _ x) => x.toNat
  | _ => 0
theorem WPost.nowOf {w w' : World} {p : Nat} {M : WM} {F : Nat → Prop} (h : WPost w p M F w') : nowOf p w' = M.now := by
  obtain ⟨_, ⟨ab, rb, h⟩, _⟩ := h
  unfold Proofs.Ytbodnmcaipakcaa.nowOf
  rw [(cell_blk h.blk 257).trans wcells_now]
  simp
theorem WPost.from {w wr w3 : World} {p : Nat} {Y : WM} {F F1 : Nat → Prop} (hf : Fr F w wr) (hg : Gro F F1 w) (h : WPost wr p Y F1 w3) : WPost w p Y F w3 := WPost.round hf hg (Fr.refl _ wr) h
theorem OutAt.later {B : Nat} {w w' : World} {v : Value} {out : List Nat} {G : Nat → Prop} (h : OutAt B w v out) (hf : Fr G w w') (hG : ∀ k, v.ownBlock = some k → ¬ G k) : OutAt B w' v out := by
  obtain ⟨a, c, rfl, hl, hc | ⟨g, cap, cur, e, h1, h2, h3⟩⟩ := h
  · exact ⟨a, c, rfl, hl, .inl hc⟩
  · refine ⟨a, c, rfl, hl, .inr ⟨g, cap, cur, e, h1, hf.blk h2 (hG g ?_), h3⟩⟩
    rw [e]; rfl
theorem WAt.nowOf {w : World} {p : Nat} {M : WM} {F : Nat → Prop} (h : WAt w p M F) : nowOf p w = M.now := WPost.nowOf (w := w) (F := F) ⟨F, h, Fr.refl _ _, Gro.refl _ _⟩
theorem GoOut.len {M : WM} {c : Nat} {out : List Nat} (h : GoOut M c out) (hids : ∀ i, 1000 ≤ i → M.f i = none) : out.length ≤ 1000 := by
  have hn : out.Nodup := by
    rw [List.nodup_iff_pairwise_ne]
    exact h.1.imp fun {a b} h e => by subst e; omega
  have e := len_eq_of_mem (ints'_nodup hn) (ints'_nodup (idsOf_nodup (fun i => decide (i ∈ out)))) (fun x => by
    rw [ints'_mem, ints'_mem, idsOf_mem]
    constructor
    · rintro ⟨h0, hx⟩
      obtain ⟨s, h1, _⟩ := (h.2 _).1 hx
      refine ⟨h0, ?_, by simpa using hx⟩
      rcases Nat.lt_or_ge x.toNat 1000 with g | g
      · exact g
      · rw [hids _ g] at h1; cases h1
    · rintro ⟨h0, _, h2⟩
      exact ⟨h0, by simpa using h2⟩)
  have e2 : (ints' out).length = out.length := by simp [ints']
  rw [← e2, e]
  exact keysLen _
theorem goEnd {w V wx w5 : World} {p : Nat} {Y : WM} {F F1 F' : Nat → Prop} {va : Option Addr} {vc g5 n5 c5 : Nat} {out : List Nat}
    (hF : Fr F w V) (hG : Gro F F1 w) (hFX : Fr F1 V wx) (hG2 : Gro F1 F' V) (hY : WAt wx p Y F') (hv : OutAt w.heap.size V (.slice va out.length vc) out) (hdj : ∀ k, (Value.slice va out.length vc).ownBlock = some k → ¬ F1 k)
    (hg5 : wx.grownBy w5 (Value.slice va out.length vc).ownBlock) (hat : (Value.slice va out.length vc).ownBlock = some g5 ∨ g5 = wx.heap.size) :
    WAt w5 p Y F' ∧ Fr F w w5 ∧ Gro F F' w ∧ ∀ k, (Value.slice (some ⟨g5, 0, none⟩) n5 c5).ownBlock = some k → ¬ F' k := by
  obtain ⟨_, _, e, hown⟩ := hv
  have hlt : ∀ k, (Value.slice va out.length vc).ownBlock = some k → w.heap.size ≤ k ∧ k < V.heap.size := fun k hk => ownsRow_lt hown hk
  have hnF : ∀ k, (Value.slice va out.length vc).ownBlock = some k → ¬ F' k := fun k hk hF' => by
    rcases hG2 k hF' with h | h
    · exact hdj k hk h
    · have := (hlt k hk).2; omega
  have hfr : Fr (fun k => (Value.slice va out.length vc).ownBlock = some k) wx w5 := (Fr.refl _ _).grown hg5 (fun k e => .inl e)
  refine ⟨hY.fr hfr (fun k hk e => hnF k e hk), (hF.trans' hFX (fun i hi h => (hG i h).resolve_right (by omega))).trans' hfr (fun i hi h => by have := (hlt i h).1; omega), fun k hk => ?_, fun k hk => ?_⟩
  · rcases hG2 k hk with h | h
    · exact hG k h
    · have := hF.size; exact .inr (by omega)
  · have hk' : g5 = k := by simpa [Value.ownBlock] using hk
    subst hk'
    rcases hat with h | h
    · exact hnF _ h
    · intro hF'
      obtain ⟨ab, rb, hr⟩ := hY
      have := hr.lt _ hF'
      omega
set_option maxHeartbeats 8000000 in
set_option maxRecDepth 100000 in
theorem wgo_any (p t : Nat) (M : WM) (F : Nat → Prop) (w : World) (h : WAt w p M F) (hI : WInv M) (ht : M.now ≤ t) (ht2 : t < 4611686018427387904) :
    Calls Try.prog 28 #[.pointer (some ⟨p, 0, none⟩), .int .u64 t] w fun e w' => ∃ v out, e = .returned (.tuple #[v, .int .i64 0]) ∧ GoOut M t out ∧ OutAt w.heap.size w' v out ∧ ∃ F', WAt w' p (M.gone t) F' ∧ Fr F w w' ∧ Gro F F' w ∧ ∀ k, v.ownBlock = some k → ¬ F' k := by
  have HWP := Box.mk (show WAt w p (M.gone M.now) F from by rw [hI.gone_now]; exact h)
  have HO0 := Box.mk (GoOut.start hI)
  have HI := Box.mk hI
  obtain ⟨ab, rb, h⟩ := h
  have htm := h.time
  have c257 := (cell_blk h.blk 257).trans wcells_now
  have hm := may_wh t (by omega) w
  rw [show decide ((t : Int) < 4611686018427387904) = true from decide_eq_true (by omega)] at hm
  have HM := Box.mk hm
  obtain ⟨now, hnow⟩ : ∃ now, M.now = now := ⟨_, rfl⟩
  have HNOW := Box.mk hnow
  rw [hnow] at c257 htm ht
  have hlt : ¬ (t : Int) < (now : Int) := by omega
  have hltB : decide (t < now) = false := decide_eq_false (by omega)
  clear hm h hnow hI
  go_enter Try.func28, Try.ntmps28
  go_upto_block 1 with (go_at_call 23; (with_reducible refine HM.out.mono ?_); rintro e w1 ⟨rfl, rfl⟩)
  clear c257
  go_wp2
  go_loopw [6, 7, 8, 9, 10, 11, 13] (fun v _ _ _ _ _ _ wr => ∃ (c : Nat) (out : List Nat), now ≤ c ∧ c ≤ t ∧ Box (GoOut M c out) ∧ Box (OutAt w.heap.size wr v out) ∧ ∃ F1, Box (WAt wr p (M.gone c) F1) ∧ Box (Fr F w wr) ∧ Box (Gro F F1 w) ∧ Box (∀ k, v.ownBlock = some k → ¬ F1 k)) (fun _ _ _ _ _ _ _ wr => t - nowOf p wr)
  case atStart =>
    refine ⟨now, [], Nat.le_refl _, by omega, ?_, ⟨⟨none, 0, rfl, by simp [ints'], .inl ⟨rfl, rfl⟩⟩⟩, F, ?_, ⟨Fr.refl _ _⟩, ⟨Gro.refl _ _⟩, ⟨fun k e => by cases e⟩⟩
    · rw [← HNOW.out]; exact HO0
    · rw [← HNOW.out]; exact HWP
  case round =>
    clear HO0 HWP
    obtain ⟨c, out, hc, hct, HO, HV, F1, HWA, HFR, HGR, HDJ⟩ := hrel
    rename World => V
    obtain ⟨va, vc, hv, -⟩ := HV.out
    subst hv
    have HFI := Box.mk (first_any p (M.gone c) F1 _ HWA.out)
    go_upto_region 7 with (go_at_call 35; (with_reducible refine HFI.out.mono ?_); rintro e w1 ⟨a, ok, rfl, hfst, hbel⟩; have HFS := Box.mk hfst; have HBL := Box.mk hbel; clear hfst hbel)
    have HW1 := Box.mk (HWA.out.fr (Fr.of_below (F := fun _ => False) HBL.out) (fun _ _ h => h))
    have HMV := Box.mk (move_any p (M.gone c) F1 t _ HW1.out ht2)
    have HIC := Box.mk (HI.out.gone (c := c) (by omega))
    have HFA := Box.mk (HIC.out.first_is HFS.out)
    have ha : a ≤ 18446744073709551615 := by
      rcases HFS.out with ⟨_, e, _⟩ | ⟨e, _⟩
      · omega
      · rcases HFA.out with ⟨e2, _⟩ | ⟨_, ⟨i, s, hi, hs⟩, _⟩
        · rw [e] at e2; cases e2
        · have := (HIC.out.at' i s hi).2.1; omega
    have HEND : Box ((ok = false ∨ t < a) → ∀ i s, (M.gone c).f i = some s → t < s.at') := ⟨fun hx i s hi => by
      rcases HFA.out with ⟨e, hn⟩ | ⟨e, _, hn⟩
      · rw [hn i] at hi; cases hi
      · have := hn i s hi
        rcases hx with hx | hx
        · rw [e] at hx; cases hx
        · omega⟩
    by_cases hstop : ok = false ∨ t < a
    · have HALL := Box.mk (HEND.out hstop)
      have HFIN : Box (∀ X w2, MoveR (M.gone c) t X → WPost w1 p X F1 w2 → GoOut M t out ∧ OutAt w.heap.size w2 (.slice va out.length vc) out ∧ ∃ F', WAt w2 p (M.gone t) F' ∧ Fr F w w2 ∧ Gro F F' w ∧ ∀ k, (Value.slice va out.length vc).ownBlock = some k → ¬ F' k) := ⟨fun X w2 hm hp => by
        have e := HIC.out.move hm hct ht2 (fun i s hi => Nat.le_of_lt (HALL.out i s hi))
        obtain ⟨g1, g2⟩ := HO.out.finish hct HALL.out
        rw [e, g2] at hp
        obtain ⟨F', ha, hf2, hg2⟩ := hp
        have hs1 := HBL.out.size
        have hs2 := HFR.out.size
        have hV : Fr F1 V w2 := (Fr.of_below (F := F1) HBL.out).trans hf2
        refine ⟨g1, HV.out.later hV HDJ.out, F', ha, HFR.out.trans' hV (fun i hi h => (HGR.out i h).resolve_right (by omega)), fun k hk => ?_, fun k hk hF' => ?_⟩
        · rcases hg2 k hk with g | g
          · exact HGR.out k g
          · exact .inr (by omega)
        · obtain ⟨_, _, _, hown⟩ := HV.out
          have hl := (ownsRow_lt hown hk).2
          rcases hg2 k hF' with g | g
          · exact HDJ.out k hk g
          · omega⟩
      rcases hstop with rfl | hgt
      · go_wp2_with (go_at_call 36; (with_reducible refine HMV.out.mono ?_); rintro e w2 ⟨rfl, X, hmr, hwp⟩; have HXE := Box.mk (HFIN.out X _ hmr hwp); clear hmr hwp)
        go_ret2
        exact ⟨_, out, rfl, HXE.out⟩
      · have hgi : (t : Int) < (a : Int) := by omega
        cases ok with
        | false =>
          go_wp2_with (go_at_call 36; (with_reducible refine HMV.out.mono ?_); rintro e w2 ⟨rfl, X, hmr, hwp⟩; have HXE := Box.mk (HFIN.out X _ hmr hwp); clear hmr hwp)
          go_ret2
          exact ⟨_, out, rfl, HXE.out⟩
        | true =>
          go_wp2_with (go_at_call 36; (with_reducible refine HMV.out.mono ?_); rintro e w2 ⟨rfl, X, hmr, hwp⟩; have HXE := Box.mk (HFIN.out X _ hmr hwp); clear hmr hwp)
          go_ret2
          exact ⟨_, out, rfl, HXE.out⟩
    · have hok : ok = true := by cases ok <;> simp_all
      subst hok
      have hat : a ≤ t := by omega
      have hng : ¬ (t : Int) < (a : Int) := by omega
      have HLST : Box (∀ i s, (M.gone c).f i = some s → a ≤ s.at') := ⟨by
        rcases HFA.out with ⟨e, _⟩ | ⟨_, _, hn⟩
        · cases e
        · exact hn⟩
      have hca : c < a := by
        rcases HFA.out with ⟨e, _⟩ | ⟨_, ⟨i, s, hi, hs⟩, _⟩
        · cases e
        · have := (HIC.out.at' i s hi).1
          have h2 : c < s.at' := this
          omega
      have ha2 : a < 4611686018427387904 := by omega
      have HMA := Box.mk (move_any p (M.gone c) F1 a _ HW1.out ha2)
      go_upto_region 12 with (go_at_call 36; (with_reducible refine HMA.out.mono ?_); rintro e w2 ⟨rfl, X, hmr, hwp⟩; have HXE := Box.mk (And.intro (HIC.out.move hmr (Nat.le_of_lt hca) ha2 HLST.out) hwp); clear hmr hwp)
      obtain ⟨hX, F2, hwa2, hf2, hg2⟩ := HXE.out
      rw [hX] at hwa2
      obtain ⟨ab2, rb2, hr2⟩ := hwa2
      have HR2 := Box.mk hr2
      have cab := (cell_blk hr2.blk 256).trans wcells_all
      have hpl2 := lt_blk hr2.blk
      obtain ⟨W0, cnt, hr0, hrg0, hbr0, hsz0⟩ := hr2.all.2.2.range Try.underlying3 Try.underlying78
      have HRG := Box.mk hrg0
      have HBR := Box.mk hbr0
      have HSZ := Box.mk hsz0
      have HF2 := Box.mk hf2
      have HG2 := Box.mk hg2
      have HID2 : Box (∀ i, 1000 ≤ i → ((M.gone c).moved a).f i = none) := ⟨hr2.ids⟩
      clear hr2 hX hf2 hg2 hrg0 hbr0 hsz0
      go_wp2
      try go_frame
      obtain ⟨r, hr⟩ : ∃ r, w2.heap.size = r := ⟨_, rfl⟩
      have HR := Box.mk hr
      have hab : ab2 < r := by rw [← hr]; exact HR2.out.lt ab2 HR2.out.all.1
      rw [hr] at HRG HBR HSZ ⊢
      clear hr0 hr cab
      go_loopw [9, 10, 11] (fun s9 _ _ wr => ∃ (a9 : Option Addr) (c9 : Nat) (ss : List Int) (left : Int → Bool) (cnt : Nat), s9 = .slice a9 ss.length c9 ∧ ss.length ≤ 1000 ∧ Box (wr.ownsRow (r + 1) 3 1 (.slice a9 ss.length c9) ss.length (ss.map (Value.int .i64))) ∧ Box (Picked ((M.gone c).moved a) a left ss) ∧ RangeAt Try.prog 3 spotE wr ab2 r 1000 ((M.gone c).moved a).all left cnt ∧ Below r w2 wr) (fun _ _ _ wr => wr.rangeLeft ab2 r)
      case atStart => exact ⟨none, 0, [], _, cnt, rfl, by simp, ⟨World.ownsRow_nil _ _ _ _⟩, ⟨Picked.none⟩, HRG.out, HBR.out⟩
      case round =>
        clear HRG HBR HSZ
        obtain ⟨a9, c9, ss, left, cnt, rfl, hlen, HOW, HPK, hrg, hb⟩ := hrel
        have HB := Box.mk hb
        have HRG := Box.mk hrg
        rcases hrg.next Try.underlying3 0 with ⟨-, hl0, hrun⟩ | ⟨x, s, W1, cnt1, hkx, hlx, hfx, hrun, hrg1, hlt1, hf1, hsz1, hen⟩
        · obtain ⟨D, hD⟩ : ∃ D, (M.gone c).due a = D := ⟨_, rfl⟩
          have hds : srt ss = ints' D := by
            rw [HPK.out.done (fun x hx => by
              obtain ⟨s, hs⟩ := Option.isSome_iff_exists.1 hx
              obtain ⟨e1, e2⟩ := all_some hs
              have h3 : x.toNat < 1000 := by
                rcases Nat.lt_or_ge x.toNat 1000 with g | g
                · exact g
                · rw [HID2.out _ g] at e2; cases e2
              exact hl0 x (kwf_of (by omega) (by omega))) HID2.out, due_moved, hD]
          have hids1 : ∀ i, 1000 ≤ i → (M.gone c).f i = none := HIC.out.ids
          have hlD : ss.length = D.length := by rw [← srt_len ss, hds]; simp [ints']
          have hpos : 0 < ss.length := by
            rw [hlD]
            rcases HFA.out with ⟨e, _⟩ | ⟨_, ⟨i, s, hi, hs⟩, _⟩
            · cases e
            · exact List.length_pos_of_mem (a := i) (by rw [← hD]; exact (due_mem hids1).2 ⟨s, hi, hs⟩)
          obtain ⟨-, hnil | ⟨g, cap, cur, hv, hge, hblk, -, hcm, -, htk⟩⟩ := HOW.out
          · exact absurd hnil.2 (by omega)
          · injection hv with e1 _ e3
            subst e1
            subst e3
            have HSORT := Box.mk (sort_any g c9 ss cur _ hblk (fun j hj => by
              have e2 : (cur.toList.take (ss.length * 1))[j]? = (ss.map (Value.int .i64))[j]? := by rw [htk]
              rw [List.getElem?_take, if_pos (by omega), List.getElem?_map, List.getElem?_eq_getElem hj] at e2
              rw [← Array.getElem?_toList]
              exact e2) (by omega))
            have HDS := Box.mk hds
            have HDD := Box.mk hD
            have HLD := Box.mk hlD
            have hlc : (ss.length : Int) ≤ 9223372036854775807 := by omega
            clear hrg hl0 hb hds hlD hD hblk htk hcm hids1
            go_upto_block 5 with (go_at_call 37; (with_reducible refine HSORT.out.mono ?_); rintro e w3 ⟨rfl, hf3, cs', hb3, hsz3, hc3⟩; have HS3 := Box.mk (And.intro hf3 (And.intro hb3 hc3)); clear hf3 hb3 hsz3 hc3)
            have HW3 : Box (WAt w3 p ((M.gone c).moved a) F2) := ⟨⟨ab2, rb2, HR2.out.fr (F := F2) (G := fun k => r ≤ k) (by
              have h1 := HB.out.trans (HS3.out.1.below (by have := HRG.out.lt.1; omega) (fun k _ e => by omega))
              exact ⟨h1.os, h1.tape, h1.output, h1.size, fun k hk hn => h1.block k (by omega)⟩) (fun k hk hge => by have := HR2.out.lt k hk; rw [HR.out] at this; omega)⟩⟩
            have HF3 : Box (Fr F1 V w3) := ⟨((Fr.of_below HBL.out).trans HF2.out).trans' (F := F1) (G := fun k => r ≤ k) (by
              have h1 := HB.out.trans (HS3.out.1.below (by have := HRG.out.lt.1; omega) (fun k _ e => by omega))
              exact ⟨h1.os, h1.tape, h1.output, h1.size, fun k hk hn => h1.block k (by omega)⟩) (fun i hi hge => by
                have h1 := HBL.out.size
                have h2 := HF2.out.size
                rw [HR.out] at h2
                omega)⟩
            have hsrt : D.Pairwise (· < ·) := by rw [← HDD.out]; exact due_sorted _ _
            have HSORTED := Box.mk hsrt
            clear hsrt HRG HB HSORT
            go_wp2
            go_loopw [13, 66] (fun _ j wx => ∃ jn : Nat, jn ≤ ss.length ∧ j = .int .i64 jn ∧ Box (WPost w3 p (((M.gone c).moved a).without D jn) F2 wx)) (fun _ j _ => ss.length - (intOf j).toNat)
            case atStart => exact ⟨0, by omega, rfl, ⟨by rw [without_zero]; exact ⟨F2, HW3.out, Fr.refl _ _, Gro.refl _ _⟩⟩⟩
            case round =>
              clear HW3
              obtain ⟨jn, hjl, rfl, HPY⟩ := hrel
              obtain ⟨F', hwa', hf', hg'⟩ := HPY.out
              have hgF2 : ¬ F2 g := fun h => by have := HR2.out.lt g h; rw [HR.out] at this; omega
              have hgl3 : g < w3.heap.size := lt_blk HS3.out.2.1
              by_cases hj : jn < ss.length
              · have hji : (jn : Int) < ss.length := by omega
                have hjD : jn < D.length := by rw [← HLD.out]; exact hj
                have hcj := HS3.out.2.2 jn (by rw [srt_len]; exact hj)
                have hsv : (srt ss)[jn]'(by rw [srt_len]; exact hj) = ((D[jn] : Nat) : Int) := by simp [HDS.out, ints']
                rw [hsv] at hcj
                have cel := (hf'.cell (p := ⟨g, jn, none⟩) hgl3 hgF2).trans ((cell_blk HS3.out.2.1 jn).trans hcj)
                obtain ⟨s1, hs1, -⟩ := (due_mem HIC.out.ids).1 (show D[jn] ∈ (M.gone c).due a by rw [HDD.out]; exact List.getElem_mem hjD)
                have hs2 : (((M.gone c).moved a).without D jn).f D[jn] = some (spotOf s1.at' a) := by
                  rw [without_here hjD HSORTED.out]
                  show ((M.gone c).f D[jn]).map _ = _
                  rw [hs1]; rfl
                have HD := Box.mk (drop_any p _ F' D[jn] _ _ hwa' hs2)
                have HNX := Box.mk (without_next (M := (M.gone c).moved a) hjD)
                have HF' := Box.mk hf'
                have HG' := Box.mk hg'
                have hjb : jn < 9223372036854775807 := by omega
                clear hwa' hf' hg' hcj hsv hs1 hs2 hgF2 hgl3
                generalize D[jn] = i at cel HD HNX
                go_wp2_with (go_at_call 32; (with_reducible refine HD.out.mono ?_); rintro e w4 ⟨rfl, hwa, hfa⟩; have HP2 : Box (WPost w3 p (((M.gone c).moved a).without D (jn + 1)) F2 w4) := Box.mk (WPost.round HF'.out HG'.out hfa (by rw [← HNX.out]; exact ⟨F', hwa, Fr.refl _ _, Gro.refl _ _⟩)); clear hwa hfa)
                go_roundw
                case rel => exact ⟨jn + 1, by omega, by go_num, HP2⟩
                case measure => simp [intOf] <;> omega
              · rename World => wx
                obtain rfl : jn = ss.length := by omega
                have hYg : ((M.gone c).moved a).without D ss.length = M.gone a := by
                  rw [← HDD.out, without_all HLST.out HIC.out.ids (by rw [HDD.out, ← HLD.out]; exact Nat.le_refl _), gone_gone (by omega)]
                rw [hYg] at hwa'
                have hFX : Fr F1 V wx := HF3.out.trans' hf' (fun i hi h => by
                  rcases HG2.out i h with h2 | h2
                  · exact h2
                  · have := HBL.out.size; omega)
                have hGX : Gro F1 F' V := fun k hk => by
                  have h1 := HBL.out.size
                  have h2 := HF3.out.size
                  rcases hg' k hk with h3 | h3
                  · rcases HG2.out k h3 with h4 | h4
                    · exact .inl h4
                    · exact .inr (by omega)
                  · exact .inr (by omega)
                have HEND2 := Box.mk (fun w5 g5 n5 c5 (h1 : wx.grownBy w5 _) h2 => goEnd (n5 := n5) (c5 := c5) (g5 := g5) HFR.out HGR.out hFX hGX hwa' HV.out HDJ.out h1 h2)
                obtain ⟨_, _, _, hown⟩ := HV.out.later hFX HDJ.out
                have HOWN := Box.mk hown
                have hblk := hf'.blk HS3.out.2.1 hgF2
                have HNEWS : Box (∀ j u, ((ints' D).map (Value.int .i64))[j]? = some u → wx.cell? ((⟨g, 0, none⟩ : Addr).add j) = some u) := ⟨fun j u hu => by
                  rw [addr_add, Nat.zero_add]
                  refine (cell_blk hblk j).trans ?_
                  have hj := (List.getElem?_eq_some_iff.1 hu).1
                  have hj2 : j < (srt ss).length := by rw [HDS.out]; simpa using hj
                  rw [HS3.out.2.2 j hj2, ← hu]
                  simp only [HDS.out] at hj2 ⊢
                  rw [List.getElem?_map, List.getElem?_eq_getElem hj2]
                  rfl⟩
                have HLEN : Box (((ints' D).map (Value.int .i64)).length = ss.length * 1) := ⟨by simp [ints', HLD.out]⟩
                have HSZ3 : Box (w.heap.size ≤ wx.heap.size) := ⟨Nat.le_trans HFR.out.size hFX.size⟩
                have hol := HO.out.len HI.out.ids
                have HSTEP := Box.mk (HO.out.step HI.out.ids hca HLST.out)
                rw [HDD.out] at HSTEP
                obtain ⟨i0, hi0, hz0, hz1, hz2⟩ := info_parts Try.infoInt
                clear hwa' hf' hg' hFX hGX hown hblk hYg hgF2 hgl3
                go_wp2_with (at_builtin; refine wpList_append_lies _ rfl (.tmp 74) (.tmp 75) 73 rfl w.heap.size 3 i0 (.int .i64 0) 1 8 Try.underlying73 hi0 hz0 hz1 hz2 rfl (by decide) (.slice va out.length vc) out.length ((ints' out).map (Value.int .i64)) rfl HOWN.out ⟨g, 0, none⟩ ss.length c9 ((ints' D).map (Value.int .i64)) rfl HLEN.out HNEWS.out ?h1 (by omega) ?b1 ?b2 HSZ3.out _ rfl ?next)
                case h1 => simp [Value.oneCell']
                case b1 => unfold maxLen; omega
                case b2 => omega
                case next =>
                  intro g5 c5 w5 ho5 hg5 hat5 _
                  have HE5 := Box.mk (HEND2.out w5 g5 (out.length + ss.length) c5 hg5 hat5)
                  have HO5 : Box (OutAt w.heap.size w5 (.slice (some ⟨g5, 0, none⟩) (out.length + ss.length) c5) (out ++ D)) := ⟨⟨_, c5, by rw [List.length_append, ← HLD.out], by
                    have e1 : (out ++ D).length = out.length + ss.length := by rw [List.length_append, ← HLD.out]
                    have e2 : (ints' (out ++ D)).map (Value.int .i64) = (ints' out).map (Value.int .i64) ++ (ints' D).map (Value.int .i64) := by simp [ints']
                    rw [e1, e2]; exact ho5⟩⟩
                  have HMS : Box (nowOf p w5 = a ∧ nowOf p V = c) := ⟨HE5.out.1.nowOf, HWA.out.nowOf⟩
                  clear ho5 hg5 hat5
                  go_wp2
                  go_roundw
                  case rel => exact ⟨a, out ++ D, by omega, hat, HSTEP, HO5, F', ⟨HE5.out.1⟩, ⟨HE5.out.2.1⟩, ⟨HE5.out.2.2.1⟩, ⟨HE5.out.2.2.2⟩⟩
                  case measure => rw [HMS.out.1, HMS.out.2]; omega
        · have hxi := (all_some hfx).1
          obtain ⟨i, hi⟩ : ∃ i, x.toNat = i := ⟨_, rfl⟩
          rw [hi] at hxi
          have HTAKE : Box (s.at' = a → Picked ((M.gone c).moved a) a (fun y => left y && !decide (y = x)) (ss ++ [x])) := ⟨fun e => HPK.out.take hfx hlx e⟩
          have HPASS : Box (s.at' ≠ a → Picked ((M.gone c).moved a) a (fun y => left y && !decide (y = x)) ss) := ⟨fun e => HPK.out.pass hfx e⟩
          have HRG1 := Box.mk hrg1
          have HB1 : Box (Below r w2 W1) := ⟨HB.out.trans (hf1.below (by have := hrg.lt.1; omega) (fun k _ e => by omega))⟩
          have hbs : r + 1 ≤ W1.heap.size := by have := hrg1.lt.1; omega
          have HO1 : Box (W1.ownsRow (r + 1) 3 1 (.slice a9 ss.length c9) ss.length (ss.map (Value.int .i64))) := ⟨ownsRow_fr HOW.out (fun g hg => hf1.block g (ownsRow_lt HOW.out hg).2 (fun e => by have := (ownsRow_lt HOW.out hg).1; omega))⟩
          have HLT : Box (cnt1 < cnt) := ⟨hlt1⟩
          obtain ⟨i0, hi0, hz0, hz1, hz2⟩ := info_parts Try.infoInt
          obtain ⟨sa, sl, sq⟩ := s
          replace hrun : (Instr.next (.pointer (some ⟨r, 0, none⟩)) false 0).run Try.prog _ = .ok (.tuple #[.bool true, .int .i64 x, .agg #[.int .u64 sa, .int .i64 sl, .int .i64 sq]]) W1 := hrun
          replace hen : (Instr.entry (.pointer (some ⟨r, 0, none⟩))).run Try.prog W1 = .ok (.tuple #[.int .i64 x, .agg #[.int .u64 sa, .int .i64 sl, .int .i64 sq]]) W1 := hen
          simp only at HTAKE HPASS
          clear hrg hb hrg1 hf1 hfx hlx hlt1 hsz1 hkx hi hxi
          by_cases he : sa = a
          · have hz : ((sa : Int) == (a : Int)) = true := by simp [he]
            have HT := Box.mk (HTAKE.out he)
            clear HTAKE HPASS he
            go_wp2_with (at_builtin; refine wpList_append_lies _ rfl (.tmp 58) (.tmp 60) 73 rfl (r + 1) 3 i0 (.int .i64 0) 1 8 Try.underlying73 hi0 hz0 hz1 hz2 rfl (by decide) (.slice a9 ss.length c9) ss.length (ss.map (Value.int .i64)) rfl ((HO1.out.alloc _).alloc _) ⟨W1.heap.size + 1, 0, none⟩ 1 1 [.int .i64 x] (by simp [Act.eval, Act.put]) rfl (World.news_of_block (cs := #[.int .i64 x]) (blk_new2 _ _ _)) ?h1 (by omega) ?b1 ?b2 ?b3 _ rfl ?next)
            case h1 => simp [Value.oneCell']
            case b1 => unfold maxLen; omega
            case b2 => omega
            case b3 => simp; omega
            case next =>
              intro g3 c3 w3 ho3 hg3 _ _
              have hfr : Fr (fun k => r + 1 ≤ k) W1 w3 := (((Fr.refl _ W1).alloc _).alloc _).grown hg3 (fun k hk => .inl (ownsRow_lt HO1.out hk).1)
              have HRG3 := Box.mk (HRG1.out.fr hfr (by omega) (by omega))
              have HB3 : Box (Below r w2 w3) := ⟨HB1.out.trans (hfr.below (by omega) (fun k _ h => by omega))⟩
              have HO3 : Box (w3.ownsRow (r + 1) 3 1 (.slice (some ⟨g3, 0, none⟩) (ss ++ [x]).length c3) (ss ++ [x]).length ((ss ++ [x]).map (Value.int .i64))) := ⟨by
                rw [List.length_append, List.map_append]; exact ho3⟩
              clear ho3 hg3 hfr
              go_wp2
              go_roundw
              case rel => exact ⟨_, c3, ss ++ [x], _, cnt1, by rw [List.length_append]; rfl, HT.out.len HID2.out, HO3, HT, HRG3.out, HB3.out⟩
              case measure => rw [HRG3.out.left_eq, HRG.out.left_eq]; exact HLT.out
          · have hz : ((sa : Int) == (a : Int)) = false := beq_eq_false_iff_ne.2 (by omega)
            have HT := Box.mk (HPASS.out he)
            clear HTAKE HPASS he
            go_wp2
            have hfr : ∀ o, Fr (fun k => r + 1 ≤ k) W1 (W1.alloc o) := fun o => (Fr.refl _ W1).alloc o
            have HRG3 := Box.mk (fun o => HRG1.out.fr (hfr o) (by omega) (by omega))
            have HB3 : Box (∀ o, Below r w2 (W1.alloc o)) := ⟨fun o => HB1.out.trans ((hfr o).below (by omega) (fun k _ h => by omega))⟩
            clear hfr
            go_roundw
            case rel => exact ⟨a9, c9, ss, _, cnt1, rfl, hlen, ⟨HO1.out.alloc _⟩, HT, HRG3.out _, HB3.out _⟩
            case measure => rw [(HRG3.out _).left_eq, HRG.out.left_eq]; exact HLT.out

end Go.Proofs.Ytbodnmcaipakcaa
