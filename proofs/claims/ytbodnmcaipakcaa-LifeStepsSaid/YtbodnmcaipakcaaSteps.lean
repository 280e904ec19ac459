/-
  LifeSteps: to go at once, or by any steps, tells the same outcomes, in the same order, if nothing is answered between. No condition but the statement's.
-/
import Derived.Test.YtbodnmcaipakcaaLiN
import Derived.Test.YtbodnmcaipakcaaArgsS
import Derived.Test.YtbodnmcaipakcaaRows
namespace Go.Proofs.Ytbodnmcaipakcaa.lifeSteps
open Go.ChangeShapes Go.WideShapes Go.ChangeAt Go.RowKit Go.Proofs.Ytbodnmcaipakcaa

/-- Request x's abort time. -/
def dd (z : List Int) (x : Int) : Nat := 8 + (zv z x.toNat).toNat
/-- The first i requests are open. -/
def dI (z : List Int) (i : Nat) : Int → Option Nat := fun x => if 0 ≤ x ∧ x < i then some (dd z x) else none
theorem dI_zero (z : List Int) : dI z 0 = fun _ => none := by funext x; unfold dI; rw [if_neg (by omega)]
theorem dI_at (z : List Int) (i : Nat) : dI z i i = none := by unfold dI; rw [if_neg (by omega)]
theorem dI_next (z : List Int) (i : Nat) : at1 (dI z i) i (some (dd z i)) = dI z (i + 1) := by
  funext x
  by_cases e : x = i
  · subst e; rw [at1_same]; unfold dI; rw [if_pos (by omega)]
  · rw [at1_ne _ _ e]; unfold dI
    by_cases h : 0 ≤ x ∧ x < i
    · rw [if_pos h, if_pos (by omega)]
    · rw [if_neg h, if_neg (by omega)]
theorem dI_cnt (z : List Int) (i : Nat) : cntD (dI z i) ≤ i := by
  have := cntD_le (d := dI z i) ((List.range i).map (fun k : Nat => (k : Int))) (fun x a h => by
    unfold dI at h
    split at h
    · exact List.mem_map.2 ⟨x.toNat, List.mem_range.2 (by omega), by omega⟩
    · cases h)
  simpa using this
theorem dI_some {z : List Int} {n : Nat} {x : Int} {a : Nat} : dI z n x = some a ↔ (0 ≤ x ∧ x < n) ∧ dd z x = a := by
  unfold dI
  by_cases h : 0 ≤ x ∧ x < n
  · rw [if_pos h]; simp [h]
  · rw [if_neg h]; simp [h]
theorem late_start (z : List Int) (n : Nat) : LateL (dI z n) (0 + 7) [] ∧ lateD (dI z n) (0 + 7) = dI z n := by
  refine ⟨⟨List.Pairwise.nil, fun x => ⟨fun h => (by cases h), fun ⟨a, h1, h2⟩ => ?_⟩⟩, ?_⟩
  · have := (dI_some.1 h1).2
    unfold dd at this
    omega
  · funext x
    refine Option.ext fun a => ?_
    rw [lateD_some]
    refine ⟨fun h => h.1, fun h => ⟨h, ?_⟩⟩
    have := (dI_some.1 h).2
    unfold dd at this
    omega
theorem lateD_lateD {d : Int → Option Nat} {a b : Nat} (h : a ≤ b) : lateD (lateD d a) b = lateD d b := by
  funext x
  refine Option.ext fun y => ?_
  rw [lateD_some, lateD_some, lateD_some]
  constructor
  · rintro ⟨⟨h1, _⟩, h2⟩; exact ⟨h1, h2⟩
  · rintro ⟨h1, h2⟩; exact ⟨⟨h1, by omega⟩, h2⟩
theorem late_append {d : Int → Option Nat} {a b : Nat} {p q : List Int} (hab : a ≤ b) (h1 : LateL d a p) (h2 : LateL (lateD d a) b q) : LateL d b (p ++ q) := by
  have hq : ∀ y ∈ q, ∃ e, d y = some e ∧ a < e ∧ e ≤ b ∧ lateD d a y = some e := fun y hy => by
    obtain ⟨e, g1, g2⟩ := (h2.2 y).1 hy
    obtain ⟨g3, g4⟩ := lateD_some.1 g1
    exact ⟨e, g3, g4, g2, g1⟩
  refine ⟨List.pairwise_append.2 ⟨h1.1, h2.1.imp_of_mem fun {x y} hx hy hxy => ?_, fun x hx y hy => ?_⟩, fun x => ?_⟩
  · obtain ⟨e, g1, _, _, g2⟩ := hq x hx
    obtain ⟨f, k1, _, _, k2⟩ := hq y hy
    rw [g2, k2] at hxy
    rw [g1, k1]
    exact hxy
  · obtain ⟨e, g1, g2⟩ := (h1.2 x).1 hx
    obtain ⟨f, k1, k2, _⟩ := hq y hy
    rw [g1, k1]
    left
    show e < f
    omega
  · rw [List.mem_append, h1.2]
    constructor
    · rintro (⟨e, g1, g2⟩ | hx)
      · exact ⟨e, g1, by omega⟩
      · obtain ⟨e, g1, _, g3, _⟩ := hq x hx
        exact ⟨e, g1, g3⟩
    · rintro ⟨e, g1, g2⟩
      by_cases h : e ≤ a
      · exact .inl ⟨e, g1, h⟩
      · exact .inr ((h2.2 x).2 ⟨e, lateD_some.2 ⟨g1, by omega⟩, g2⟩)
theorem late_len {z : List Int} {n : Nat} {b : Nat} {q : List Int} (h : LateL (dI z n) b q) (hz : ∀ i : Nat, i < n → dd z i ≤ b) : q.length = n := by
  have hrn : ((List.range n).map (fun k : Nat => (k : Int))).Nodup := by
    rw [List.nodup_iff_pairwise_ne, List.pairwise_map]
    exact (List.nodup_iff_pairwise_ne.1 List.nodup_range).imp (fun h => by omega)
  have := len_eq_of_mem (late_nodup h) hrn (fun x => by
    rw [h.2, List.mem_map]
    constructor
    · rintro ⟨a, h1, h2⟩
      have := (dI_some.1 h1).1
      exact ⟨x.toNat, List.mem_range.2 (by omega), by omega⟩
    · rintro ⟨k, hk, rfl⟩
      have hk := List.mem_range.1 hk
      exact ⟨_, dI_some.2 ⟨by omega, rfl⟩, hz k hk⟩)
  simpa using this
theorem late_le {z : List Int} {n : Nat} {b : Nat} {q : List Int} (h : LateL (dI z n) b q) : q.length ≤ n := by
  have := nodup_sub_len (late_nodup h) (m := (List.range n).map (fun k : Nat => (k : Int))) (fun x hx => by
    obtain ⟨a, h1, h2⟩ := (h.2 x).1 hx
    have := (dI_some.1 h1).1
    exact List.mem_map.2 ⟨x.toNat, List.mem_range.2 (by omega), by omega⟩)
  simpa using this
theorem timeF_append (p q : List Int) : timeF (p ++ q) = timeF p ++ timeF q := by unfold timeF; rw [List.map_append]
theorem timeF_len (p : List Int) : (timeF p).length = p.length := by unfold timeF; rw [List.length_map]
theorem fcells_int : ∀ (L : List FateM) (u : Value), u ∈ fcells L → ∃ x, u = .int .i64 x
  | [], u, h => by simp [fcells] at h
  | m :: L, u, h => by
    have e : fcells (m :: L) = [.int .i64 m.id, .int .i64 m.kind, .int .i64 m.why] ++ fcells L := rfl
    rw [e, List.mem_append] at h
    rcases h with h | h
    · simp only [List.mem_cons, List.not_mem_nil, or_false] at h
      rcases h with h | h | h <;> exact ⟨_, h⟩
    · exact fcells_int L u h
theorem get_row {B : Nat} {w : World} {ao : Option Addr} {n c : Nat} {p : List Int} (h : OutF B w (.slice ao n c) (timeF p)) (hn : n = p.length) {k : Nat} (hk : k < n) : ∃ (b : Nat) (x : Int), ao = some ⟨b, 0, none⟩ ∧ p[k]? = some x ∧ w.cell? ⟨b, k * 3, none⟩ = some (.int .i64 x) ∧ w.cell? ⟨b, k * 3 + 1, none⟩ = some (.int .i64 2) ∧ w.cell? ⟨b, k * 3 + 2, none⟩ = some (.int .i64 1) := by
  obtain ⟨a, c', e, hl, hc | ⟨g, cap, cur, hv, h1, h2, h3⟩⟩ := h
  · have := hc.2
    rw [timeF_len] at this
    omega
  · have hkl : k < (timeF p).length := by rw [timeF_len]; omega
    obtain ⟨f1, f2, f3⟩ := fcells_get hkl
    obtain ⟨hnc, hcm, hcs, htk⟩ := h3
    injection hv with v1 _ _
    have hget : ∀ j, j < (timeF p).length * 3 → cur[j]? = (fcells (timeF p))[j]? := fun j hj => by
      have e2 : (cur.toList.take ((timeF p).length * 3))[j]? = (fcells (timeF p))[j]? := by rw [htk]
      rw [List.getElem?_take, if_pos hj] at e2
      rw [← Array.getElem?_toList, e2]
    have hx : (timeF p)[k] = ⟨p[k]'(by omega), 2, 1⟩ := by simp [timeF]
    rw [hx] at f1 f2 f3
    refine ⟨g, p[k]'(by omega), v1, List.getElem?_eq_getElem _, ?_, ?_, ?_⟩
    · exact (cell_blk h2 _).trans ((hget _ (by omega)).trans f1)
    · exact (cell_blk h2 _).trans ((hget _ (by omega)).trans f2)
    · exact (cell_blk h2 _).trans ((hget _ (by omega)).trans f3)

set_option maxHeartbeats 16000000 in
set_option maxRecDepth 100000 in
theorem walk (a0 : Option Addr) (n cap0 : Nat) (z : List Int) (a1 : Option Addr) (m cap1 : Nat) (y : List Int) (w : World) (g0 : ArgInts .u16 w a0 n z) (g1 : ArgInts .u8 w a1 m y) :
    Calls Try.prog 4 #[.slice a0 n cap0, .slice a1 m cap1] w fun e w' => e = .returned (.bool true) ∧ Below w.heap.size w w' := by
  have hn63 := g0.2.1
  have hm63 := g1.2.1
  have HU : Box (∀ i, i < n → 0 ≤ zv z i ∧ zv z i ≤ 65535) := ⟨fun i hi => by
    have h1 := g0.2.2.1 (zv z i) (by unfold zv; rw [getD_in (by rw [g0.1]; exact hi)]; exact List.getElem_mem _)
    simp [Lit.wf, IntKind.min, IntKind.max, IntKind.signed, IntKind.bits] at h1
    omega⟩
  have HV : Box (∀ i, i < m → 0 ≤ zv y i ∧ zv y i ≤ 255) := ⟨fun i hi => by
    have h1 := g1.2.2.1 (zv y i) (by unfold zv; rw [getD_in (by rw [g1.1]; exact hi)]; exact List.getElem_mem _)
    simp [Lit.wf, IntKind.min, IntKind.max, IntKind.signed, IntKind.bits] at h1
    omega⟩
  have HA := Box.mk g0
  have HC := Box.mk g1
  clear g0 g1
  have HNW := Box.mk (fun w1 => bnew_any 7 w1 (by omega))
  go_enter Try.func4, Try.ntmps4
  go_upto_region 3 with (go_at_call 9; refine (awake19_any _).mono ?_; rintro e w1 ⟨rfl, hb1⟩; have HB1 := Box.mk hb1; clear hb1)
  go_upto_region 4 with (go_at_call 10; refine (HNW.out _).mono ?_; rintro e w2 ⟨pa, Fa, rfl, h1, hF, h2⟩; have HN1 := Box.mk (And.intro h1 (And.intro hF h2)); clear h1 hF h2)
  go_upto_region 5 with (go_at_call 10; refine (HNW.out _).mono ?_; rintro e w3 ⟨pb, Fb, rfl, h1, hF, h2⟩; have HS := Box.mk (B2.new HB1.out HN1.out.1 HN1.out.2.1 HN1.out.2.2 h1 hF h2); clear h1 h2 hF)
  clear HNW HB1 HN1
  rw [← dI_zero z] at HS
  by_cases hn : 64 < n
  · have hni : (64 : Int) < n := by omega
    go_wp2
    go_ret
    exact ⟨rfl, HS.out.below⟩
  · have hni : ¬ (64 : Int) < n := by omega
    by_cases hm : 60 < m
    · have hmi : (60 : Int) < m := by omega
      go_wp2
      go_ret
      exact ⟨rfl, HS.out.below⟩
    · have hmi : ¬ (60 : Int) < m := by omega
      go_upto_block 0 with fail
      go_wp2
      go_loopw [9] (fun s9 wr => ∃ i : Nat, i ≤ n ∧ s9 = .int .i64 i ∧ Box (B2 w wr 7 pa 0 (dI z i) pb 0 (dI z i) (.slice none 0 0) [] (.slice none 0 0) [])) (fun s9 _ => n - (intOf s9).toNat)
      case atStart => exact ⟨0, by omega, rfl, HS⟩
      case round =>
        clear HS
        obtain ⟨i, hin, rfl, HS⟩ := hrel
        by_cases hlt : i < n
        · obtain ⟨b, off, rfl, hbw, hcell⟩ := HA.out.get (by omega)
          have HCE := Box.mk (hcell i hlt)
          have cx := (HS.out.below.cell (p := ⟨b, off + i, none⟩) hbw).trans HCE.out
          have hu := HU.out i hlt
          have hdd : ((dd z i : Nat) : Int) = 8 + zv z i := by unfold dd; rw [Int.toNat_natCast]; omega
          have hop : openD 7 0 (dI z i) i (dd z i) = 0 := openD_ok (by omega) (by omega) (by omega) (dI_at z i) (by have := dI_cnt z i; omega) (by omega)
          have HR := b2_open w _ 7 pa 0 _ pb 0 _ _ _ _ _ HS.out i (dd z i) (kwf_of (by omega) (by omega)) hop _ (dI_next z i)
          have HRB := fun w' hs => b2_open w w' 7 pb 0 (dI z i) pa 0 (dI z (i + 1)) (.slice none 0 0) [] (.slice none 0 0) [] hs i (dd z i) (kwf_of (by omega) (by omega)) hop _ (dI_next z i)
          rw [hdd] at HR
          simp only [hdd] at HRB
          have HR := Box.mk HR
          have HRB := Box.mk HRB
          clear hcell hdd hop
          generalize zv z i = u at cx hu HR HRB HCE
          have hil : (i : Int) < n := by omega
          go_wp2_with (first
            | (go_at_call 11; (with_reducible refine HR.out.mono ?_); rintro e w4 ⟨rfl, hs⟩; have HS := Box.mk hs.symm; have cx := (hs.below.cell (p := ⟨b, off + i, none⟩) hbw).trans HCE.out; clear hs)
            | (go_at_call 11; (with_reducible refine (HRB.out _ HS.out).mono ?_); rintro e w5 ⟨rfl, hs⟩; have HS := Box.mk hs.symm; clear hs))
          go_roundw
          case rel => exact ⟨i + 1, by omega, by go_num, HS⟩
          case measure => simp [intOf] <;> omega
        · have e : n = i := by omega
          subst e
          have hil : ¬ (n : Int) < n := by omega
          obtain ⟨s1, s2⟩ := late_start z n
          have HL0 := Box.mk s1
          have HS2 : Box (B2 w _ 7 pa 0 (lateD (dI z n) (0 + 7)) pb 0 (dI z n) (.slice none 0 0) (timeF []) (.slice none 0 0) []) := ⟨by rw [s2]; exact HS.out⟩
          clear HS s1 s2
          go_upto_block 2 with fail
          go_wp2
          go_loopw [10, 11, 12, 13, 14] (fun s10 s11 s12 _ _ wr => ∃ (j now : Nat) (va : Option Addr) (vc : Nat) (parts : List Int), j ≤ m ∧ now ≤ 255 * j ∧ s12 = .int .i64 j ∧ s11 = .int .u64 now ∧ s10 = .slice va (timeF parts).length vc ∧ Box (LateL (dI z n) (now + 7) parts) ∧ Box (B2 w wr 7 pa now (lateD (dI z n) (now + 7)) pb 0 (dI z n) (.slice va (timeF parts).length vc) (timeF parts) (.slice none 0 0) [])) (fun _ _ s12 _ _ _ => m - (intOf s12).toNat)
          case atStart => exact ⟨0, 0, none, 0, [], by omega, by omega, rfl, rfl, rfl, HL0, HS2⟩
          case round =>
            clear HS2 HL0
            obtain ⟨j, now, va, vc, parts, hjm, hnow, rfl, rfl, rfl, HL, HS⟩ := hrel
            have hpl : (timeF parts).length ≤ 64 := by rw [timeF_len]; have := late_le HL.out; omega
            by_cases hj : j < m
            · obtain ⟨b, off, rfl, hbw, hcell⟩ := HC.out.get (by omega)
              have hv := HV.out j hj
              have cx0 := hcell j hj
              obtain ⟨s, hs⟩ : ∃ s : Nat, zv y j = s := ⟨(zv y j).toNat, by omega⟩
              rw [hs] at cx0 hv
              have cx := (HS.out.below.cell (p := ⟨b, off + j, none⟩) hbw).trans cx0
              have hjl : (j : Int) < m := by omega
              clear hcell hs cx0
              have HR := b2_go w _ 7 pa now _ pb 0 _ _ _ _ _ HS.out (now + s) (by omega) (by omega)
              rw [show ((now + s : Nat) : Int) = (now : Int) + (s : Int) from by omega, lateD_lateD (by omega)] at HR
              have HR := Box.mk HR
              have HLA : Box (∀ q, LateL (lateD (dI z n) (now + 7)) (now + s + 7) q → LateL (dI z n) (now + s + 7) (parts ++ q)) := ⟨fun q h => late_append (by omega) HL.out h⟩
              obtain ⟨i0, hi0, hz0, hz1, hz2⟩ := info_parts Try.infoFate
              have hnow2 : now + s ≤ 255 * (j + 1) := by omega
              go_upto_region 21 with (go_at_call 13; (with_reducible refine HR.out.mono ?_); rintro e w7 ⟨vl, vo, q, rfl, hl, -, -, -, hs⟩; have HL2 := Box.mk (HLA.out q hl); have HS2 := Box.mk hs; clear hs hl)
              obtain ⟨_, _, _, hown⟩ := HS2.out.rowV.1
              have HOWN := Box.mk hown
              have HSRC := Box.mk (HS2.out.rowV.2.src rfl)
              have HLL : Box ((fcells (timeF q)).length = (timeF q).length * 3) := ⟨fcells_len _⟩
              have HBS := Box.mk HS2.out.below.size
              have hln : (timeF parts).length + (timeF q).length ≤ 64 := by
                have := late_le HL2.out
                rw [List.length_append] at this
                rw [timeF_len, timeF_len]; omega
              clear hown HR HLA
              go_wp2_with (at_builtin; refine wpList_append_rowg rfl (.tmp 111) (.tmp 112) 31 rfl w.heap.size 35 i0 (.agg #[.int .i64 0, .int .i64 0, .int .i64 0]) 3 24 Try.underlying31 hi0 hz0 hz1 hz2 rfl (by decide) (.slice va (timeF parts).length vc) (timeF parts).length (fcells (timeF parts)) rfl HOWN.out vl (timeF q).length vo (fcells (timeF q)) rfl HLL.out HSRC.out ?h1 ?b1 ?b2 HBS.out _ rfl _ rfl ?next)
              case h1 =>
                simp [Value.oneCell']
                intro u hu
                obtain ⟨x, rfl⟩ := fcells_int _ u hu
                rfl
              case b1 => unfold maxLen; omega
              case b2 => omega
              case next =>
                intro ao cap w8 ho8 hg8 hat8
                have HS3 := Box.mk (HS2.out.grown (n := (timeF parts).length + (timeF q).length) (by rw [fcells_append]; exact ho8) (by rw [List.length_append]) hg8 hat8)
                have e3 : (timeF parts).length + (timeF q).length = (timeF (parts ++ q)).length := by rw [timeF_append, List.length_append]
                rw [← timeF_append, e3] at HS3
                have HE3 := Box.mk e3
                clear ho8 hg8 hat8 e3
                go_wp2
                go_roundw
                case rel => exact ⟨j + 1, now + s, ao, cap, parts ++ q, by omega, hnow2, by go_num, by go_num, by rw [HE3.out], HL2, HS3⟩
                case measure => simp [intOf] <;> omega
            · have hjl : ¬ (j : Int) < m := by omega
              have hnow2 : now ≤ 15300 := by omega
              have HRA := Box.mk (b2_go w _ 7 pa now _ pb 0 _ _ _ _ _ HS.out 100000 (by omega) (by omega))
              have HLA : Box (∀ q, LateL (lateD (dI z n) (now + 7)) (100000 + 7) q → LateL (dI z n) (100000 + 7) (parts ++ q)) := ⟨fun q h => late_append (by omega) HL.out h⟩
              go_upto_region 23 with (go_at_call 13; refine HRA.out.mono ?_; rintro e w7 ⟨vl, vo, q, rfl, hl, -, -, -, hs⟩; have HL2 := Box.mk (HLA.out q hl); have HS2 := Box.mk hs; clear hs hl)
              have HRB := Box.mk (b2_go w _ 7 pb 0 _ pa 100000 _ _ _ _ _ HS2.out.symm 100000 (by omega) (by omega))
              go_upto_region 24 with (go_at_call 13; refine HRB.out.mono ?_; rintro e w8 ⟨vb, vd, all, rfl, hl, hs, hO, hne, -⟩; have HS3 := Box.mk hs; have HO := Box.mk hO; have HNE := Box.mk hne; have HEQ := Box.mk (And.intro (late_eq HL2.out hl) (late_len hl (fun i hi => by have := HU.out i hi; unfold dd; rw [Int.toNat_natCast]; omega))); clear hs hl hO hne)
              obtain ⟨e1, hal⟩ := HEQ.out
              subst e1
              obtain ⟨_, _, _, hown⟩ := HS3.out.rowV.1
              have HOWN := Box.mk hown
              have HSRC := Box.mk (HS3.out.rowV.2.src rfl)
              have HLL : Box ((fcells (timeF q)).length = (timeF q).length * 3) := ⟨fcells_len _⟩
              have HBS := Box.mk HS3.out.below.size
              have hQ : (timeF (parts ++ q)).length = n := by rw [timeF_len]; exact hal
              have HPL : Box ((timeF parts).length + (timeF q).length = n) := ⟨by rw [← hQ, timeF_append, List.length_append]⟩
              have hO2 := HO.out
              have hN2 := HNE.out
              rw [hQ] at hO2 hN2
              have HO2 := Box.mk hO2
              have HN2 := Box.mk hN2
              have HAL := Box.mk hal
              rw [hQ]
              have HQ := Box.mk hQ
              obtain ⟨i0, hi0, hz0, hz1, hz2⟩ := info_parts Try.infoFate
              have hnn : ((n : Int) == (n : Int)) = true := by simp
              clear hown hO2 hN2 hal hQ HO HNE HEQ
              go_wp2_with (at_builtin; refine wpList_append_rowg rfl (.tmp 124) (.tmp 125) 31 rfl w.heap.size 35 i0 (.agg #[.int .i64 0, .int .i64 0, .int .i64 0]) 3 24 Try.underlying31 hi0 hz0 hz1 hz2 rfl (by decide) (.slice va (timeF parts).length vc) (timeF parts).length (fcells (timeF parts)) rfl HOWN.out vl (timeF q).length vo (fcells (timeF q)) rfl HLL.out HSRC.out ?h1 ?b1 ?b2 HBS.out n HPL.out _ rfl ?next)
              case h1 =>
                simp [Value.oneCell']
                intro u hu
                obtain ⟨x, rfl⟩ := fcells_int _ u hu
                rfl
              case b1 => have := HPL.out; unfold maxLen; omega
              case b2 => have := HPL.out; omega
              case next =>
                intro ao cap w9 ho9 hg9 hat9
                have HS4 := Box.mk (HS3.out.grown (n := n) (by rw [fcells_append]; exact ho9) (by rw [List.length_append]; exact HPL.out.symm) hg9 hat9)
                have hfr : Fr (fun k => (Value.slice va (timeF parts).length vc).ownBlock = some k) w8 w9 := (Fr.refl _ _).grown hg9 (fun k e => .inl e)
                have HO9 := Box.mk (HO2.out.later hfr (fun k hk e => (HN2.out k hk).1 e))
                have h49 := HS4.out.rowV.1
                rw [← timeF_append] at h49
                have HR1 : Box (∀ k, k < n → ∃ (b b' : Nat) (x : Int), ao = some ⟨b, 0, none⟩ ∧ vb = some ⟨b', 0, none⟩ ∧ w9.cell? ⟨b, k * 3, none⟩ = some (.int .i64 x) ∧ w9.cell? ⟨b, k * 3 + 1, none⟩ = some (.int .i64 2) ∧ w9.cell? ⟨b, k * 3 + 2, none⟩ = some (.int .i64 1) ∧ w9.cell? ⟨b', k * 3, none⟩ = some (.int .i64 x) ∧ w9.cell? ⟨b', k * 3 + 1, none⟩ = some (.int .i64 2) ∧ w9.cell? ⟨b', k * 3 + 2, none⟩ = some (.int .i64 1)) := ⟨fun k hk => by
                  obtain ⟨b, x, g1, g2, g3, g4, g5⟩ := get_row h49 HAL.out.symm hk
                  obtain ⟨b', x', k1, k2, k3, k4, k5⟩ := get_row HO9.out HAL.out.symm hk
                  rw [g2] at k2
                  injection k2 with k2
                  subst k2
                  exact ⟨b, b', x, g1, k1, g3, g4, g5, k3, k4, k5⟩⟩
                have HW0 := Box.mk HS4.out.below
                clear ho9 hg9 hat9 hfr h49 HS4 HO9
                go_upto_block 4 with fail
                go_wp2
                go_loopw [19] (fun s19 wr => ∃ k : Nat, k ≤ n ∧ s19 = .int .i64 k ∧ Box (Below w.heap.size w wr ∧ ∀ a, wr.cell? a = w9.cell? a)) (fun s19 _ => n - (intOf s19).toNat)
                case atStart => exact ⟨0, by omega, rfl, ⟨HW0.out, fun _ => rfl⟩⟩
                case round =>
                  obtain ⟨k, hk, rfl, HW⟩ := hrel
                  by_cases hlt : k < n
                  · obtain ⟨b, b', x, rfl, rfl, g1, g2, g3, k1, k2, k3⟩ := HR1.out k hlt
                    have c1 := (HW.out.2 _).trans g1
                    have c2 := (HW.out.2 _).trans g2
                    have c3 := (HW.out.2 _).trans g3
                    have d1 := (HW.out.2 _).trans k1
                    have d2 := (HW.out.2 _).trans k2
                    have d3 := (HW.out.2 _).trans k3
                    have hkn : (k : Int) < n := by omega
                    have hxx : (x == x) = true := by simp
                    clear g1 g2 g3 k1 k2 k3
                    go_wp2
                    go_quiet (fail)
                    go_wp2
                    go_roundw
                    case rel => exact ⟨k + 1, by omega, by go_num, ⟨HW.out.1.trans (Below.mono ⟨rfl, rfl, rfl, Nat.le_refl _, fun _ _ => rfl⟩ HW.out.1.size), fun a => HW.out.2 a⟩⟩
                    case measure => simp [intOf] <;> omega
                  · have hkn : ¬ (k : Int) < n := by omega
                    go_wp2
                    go_ret
                    exact ⟨rfl, HW.out.1⟩

/-! The row's step. -/
theorem own : ownKnob Try.prog.godebug = none := by kernel_rfl
theorem laidOut : laidOutB Try.prog = true := by kernel_rfl

set_option maxRecDepth 100000 in
theorem lifted (os : Os) (started : os.Started) (H : Type) (enc : TypeId × Value → H) :
    ReturnsInHanded {} Try.checked os 4 .any (Rows.lifeStepsSpec.pre6 enc Try.prog Try.f4 Rows.lifeStepsRow.domain false) (Rows.lifeStepsSpec.post enc Try.prog Try.f4 false true false false) := by
  refine returnsInHanded_of_change (C := Try.checked) own started (by kernel_rfl) Try.func4
    (ChangeSpec.witness6 (enc := enc) (C := Try.checked) false ⟨#[], #[.slice none 0 0, .slice none 0 0], []⟩ 8 (by kernel_rfl) (by kernel_rfl) (by kernel_rfl) (by kernel_rfl)) ?_
  intro W base args ds gs before hval0 hW hcnd _
  have hval : ∀ (j : Nat) t v, Try.f4.params[j]? = some t → args[j]? = some v → Value.okWide Try.prog W .any base t v := hval0
  have hW' := hW
  obtain ⟨p, q, hA0, hV, rfl, hfz, hnd⟩ := hW
  have hA : DataW.TrodAll enc Try.prog W 0 (fun _ => true) true Try.f4.params.toList args.toList ds p := hA0
  rw [Try.params4] at hA hval
  obtain ⟨v0, vs0, d0, ds0, p0, q0, hargs, rfl, rfl, h0, r0⟩ := trodAll_cons hA
  obtain ⟨v1, vs1, d1, ds1, p1, q1, rfl, rfl, rfl, h1, r1⟩ := trodAll_cons r0
  obtain ⟨rfl, rfl, rfl⟩ := trodAll_nil r1
  obtain rfl : args = #[v0, v1] := by cases args; simp_all
  obtain ⟨rfl, rfl⟩ := trodVars_none hV
  obtain ⟨a0, len0, cap0, rfl⟩ := okWide_slice Try.underlying37 (hval 0 37 v0 rfl rfl)
  have k0 := h0
  have lt0 : ∀ x ∈ p0, x.block < W.heap.size := by obtain ⟨m, hm⟩ := k0; exact DataW.trod_lt m _ _ _ hm
  obtain ⟨z0, w0⟩ : ∃ zs, ArgInts .u16 W a0 len0 zs := by
    obtain ⟨fuel, hf⟩ := h0
    rcases open_ints Try.underlying37 Try.underlying38 (by kernel_rfl) hf with ⟨hcs, _⟩ | ⟨x, l, c, zs, hcs, _, hl, hm, hz, _, hcell, hwz⟩
    · simp [Value.cells] at hcs
      obtain ⟨rfl, rfl, rfl⟩ := hcs
      exact ⟨[], rfl, by omega, by simp, fun h => by omega⟩
    · simp [Value.cells] at hcs
      obtain ⟨rfl, rfl, rfl⟩ := hcs
      exact ⟨zs.take len0, argInts_of_ints hl hm (by simpa using hz) hcell hwz⟩
  obtain ⟨a1, len1, cap1, rfl⟩ := okWide_slice Try.underlying22 (hval 1 22 v1 rfl rfl)
  have k1 := h1
  have lt1 : ∀ x ∈ p1, x.block < W.heap.size := by obtain ⟨m, hm⟩ := k1; exact DataW.trod_lt m _ _ _ hm
  obtain ⟨z1, w1⟩ : ∃ zs, ArgInts .u8 W a1 len1 zs := by
    obtain ⟨fuel, hf⟩ := h1
    rcases open_ints Try.underlying22 Try.underlying5 (by kernel_rfl) hf with ⟨hcs, _⟩ | ⟨x, l, c, zs, hcs, _, hl, hm, hz, _, hcell, hwz⟩
    · simp [Value.cells] at hcs
      obtain ⟨rfl, rfl, rfl⟩ := hcs
      exact ⟨[], rfl, by omega, by simp, fun h => by omega⟩
    · simp [Value.cells] at hcs
      obtain ⟨rfl, rfl, rfl⟩ := hcs
      exact ⟨zs.take len1, argInts_of_ints hl hm (by simpa using hz) hcell hwz⟩
  clear hA0 hval0
  refine (walk a0 len0 cap0 z0 a1 len1 cap1 z1 W w0 w1).mono fun e W' ⟨he, bel⟩ => ?_
  subst he
  exact ⟨_, rfl, _, _, _, [], _, [], hW', trodAll_mk1 (shut_bool Try.underlying4 _), (trodAll_cons_mk (Below.trod laidOut (by kernel_rfl) (of_decide_eq_true (by kernel_rfl)) k0 bel lt0) (trodAll_cons_mk (Below.trod laidOut (by kernel_rfl) (of_decide_eq_true (by kernel_rfl)) k1 bel lt1) trodAll_mk0)), rfl, bel.frame _, fun h => by cases h⟩

theorem over : Rows.lifeStepsRow.holds Try.pinned (OpenSpec.ofChange Rows.lifeStepsSpec) :=
  OpenClaim.holds_of_wide 4 Try.f4 rfl rfl rfl rfl rfl rfl rfl ⟨rfl, rfl, rfl, rfl, rfl⟩ rfl rfl rfl rfl rfl (by kernel_rfl) Try.func4 (by kernel_rfl)
    (of_decide_eq_true (by kernel_rfl)) (by unfold Func.isWrapper; first | (rw [if_pos (by decide +kernel)]; kernel_rfl) | (rw [if_neg (by decide +kernel)]; exact ⟨rfl, rfl⟩))
    (fun os started H enc _ => lifted os started H enc)

/-- The statement. -/
theorem proved : Rows.LifeStepsSaid := over
#print axioms proved

end Go.Proofs.Ytbodnmcaipakcaa.lifeSteps
