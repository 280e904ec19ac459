/-
  WheelParts: to go at once, or in any steps, tells the same timers, in the same order; each goes off once. No condition but the statement's.
-/
import Derived.Test.YthlaebleaooeiaaWhT
import Derived.Test.YthlaebleaooeiaaArgsS
import Derived.Test.YthlaebleaooeiaaRows
namespace Go.Proofs.Ythlaebleaooeiaa.wheelParts
open Go.ChangeShapes Go.WideShapes Go.ChangeAt Go.RowKit Go.Proofs.Ythlaebleaooeiaa

/-- Timer i's time. -/
def tm (z : List Int) (i : Nat) : Nat := (zv z i).toNat
/-- The first i timers, as far as they may be set. -/
def gN (z : List Int) (i : Nat) : Nat → Option Nat := fun j => if j < i ∧ setC 0 (j : Int) (tm z j) = 0 then some (tm z j) else none
def okN (z : List Int) (i : Nat) : List Nat := (List.range i).filter (fun j => decide (setC 0 (j : Int) (tm z j) = 0))
theorem gN_some {z : List Int} {n j a : Nat} : gN z n j = some a ↔ j < n ∧ setC 0 (j : Int) (tm z j) = 0 ∧ tm z j = a := by
  unfold gN
  by_cases h : j < n ∧ setC 0 (j : Int) (tm z j) = 0
  · rw [if_pos h]
    simp only [Option.some.injEq]
    exact ⟨fun e => ⟨h.1, h.2, e⟩, fun e => e.2.2⟩
  · rw [if_neg h]
    exact ⟨fun e => (by cases e), fun e => absurd ⟨e.1, e.2.1⟩ h⟩
theorem gN_zero (z : List Int) : gN z 0 = fun _ => none := by funext j; simp [gN]
theorem set_g (z : List Int) (i : Nat) : setT 0 (gN z i) (i : Int) (tm z i) = gN z (i + 1) := by
  unfold setT
  by_cases hc : setC 0 (i : Int) (tm z i) = 0
  · rw [if_pos hc]
    funext j
    show (if j = (i : Int).toNat then some (tm z i) else gN z i j) = _
    rw [Int.toNat_natCast]
    unfold gN
    by_cases e : j = i
    · subst e; rw [if_pos rfl, if_pos ⟨by omega, hc⟩]
    · rw [if_neg e]
      by_cases h : j < i ∧ setC 0 (j : Int) (tm z j) = 0
      · rw [if_pos h, if_pos ⟨by omega, h.2⟩]
      · rw [if_neg h, if_neg (fun h2 => h ⟨by omega, h2.2⟩)]
  · rw [if_neg hc]
    funext j
    unfold gN
    by_cases h : j < i ∧ setC 0 (j : Int) (tm z j) = 0
    · rw [if_pos h, if_pos ⟨by omega, h.2⟩]
    · rw [if_neg h, if_neg (fun h2 => ?_)]
      by_cases e : j = i
      · subst e; exact hc h2.2
      · exact h ⟨by omega, h2.2⟩
theorem okN_yes {z : List Int} {i : Nat} (h : setC 0 (i : Int) (tm z i) = 0) : (okN z (i + 1)).length = (okN z i).length + 1 := by
  unfold okN; rw [List.range_succ, List.filter_append]; simp [h]
theorem okN_no {z : List Int} {i : Nat} (h : setC 0 (i : Int) (tm z i) ≠ 0) : (okN z (i + 1)).length = (okN z i).length := by
  unfold okN; rw [List.range_succ, List.filter_append]; simp [h]
theorem okN_le (z : List Int) (i : Nat) : (okN z i).length ≤ i := Nat.le_trans (List.length_filter_le _ _) (by simp)
theorem gN_lim {z : List Int} {n i a : Nat} (h : gN z n i = some a) : 0 < a ∧ a < 4611686018427387904 := by
  obtain ⟨h1, h2, h3⟩ := gN_some.1 h
  have := setC_zero.1 h2
  omega
theorem all_len {z : List Int} {n : Nat} {all : List Nat} (h : GoT (gN z n) 4611686018427387903 all) : all.length = (okN z n).length := by
  have hn : all.Nodup := by
    rw [List.nodup_iff_pairwise_ne]
    exact h.1.imp fun {a b} h e => by subst e; omega
  refine len_eq_of_mem hn (List.nodup_range.filter _) fun i => ?_
  rw [h.2]
  unfold okN
  simp only [List.mem_filter, List.mem_range, decide_eq_true_eq]
  constructor
  · rintro ⟨a, h1, _⟩
    obtain ⟨h2, h3, _⟩ := gN_some.1 h1
    exact ⟨h2, h3⟩
  · rintro ⟨h1, h2⟩
    have h3 := gN_some.2 ⟨h1, h2, rfl⟩
    exact ⟨_, h3, by have := gN_lim h3; omega⟩
theorem all_gone {z : List Int} {n s : Nat} (hs : s ≤ 4611686018427387903) : cntT (goneT (goneT (gN z n) s) 4611686018427387903) = 0 := by
  rw [goneT_goneT hs]
  refine cntT_none fun i => ?_
  cases e : goneT (gN z n) 4611686018427387903 i with
  | none => rfl
  | some a =>
    obtain ⟨h1, h2⟩ := goneT_some.1 e
    have := gN_lim h1
    omega
theorem all_gone0 {z : List Int} {n : Nat} : cntT (goneT (gN z n) 4611686018427387903) = 0 := by
  refine cntT_none fun i => ?_
  cases e : goneT (gN z n) 4611686018427387903 i with
  | none => rfl
  | some a =>
    obtain ⟨h1, h2⟩ := goneT_some.1 e
    have := gN_lim h1
    omega
theorem gone_zero (z : List Int) (n : Nat) : goneT (gN z n) 0 = gN z n := by
  funext i
  refine Option.ext fun a => ?_
  rw [goneT_some]
  exact ⟨fun h => h.1, fun h => ⟨h, (gN_lim h).1⟩⟩
theorem got_start (z : List Int) (n : Nat) : GoT (gN z n) 0 [] := ⟨List.Pairwise.nil, fun i => ⟨fun h => (by cases h), fun ⟨a, h1, h2⟩ => by have := (gN_lim h1).1; omega⟩⟩

set_option maxHeartbeats 16000000 in
set_option maxRecDepth 100000 in
theorem walk (a0 : Option Addr) (n cap0 : Nat) (z : List Int) (a1 : Option Addr) (m cap1 : Nat) (y : List Int) (w : World) (g0 : ArgInts .u64 w a0 n z) (g1 : ArgInts .u64 w a1 m y) :
    Calls Try.prog 4 #[.slice a0 n cap0, .slice a1 m cap1] w fun e w' => e = .returned (.bool true) ∧ Below w.heap.size w w' := by
  have hn63 := g0.2.1
  have hm63 := g1.2.1
  have uw : ∀ {a : Option Addr} {n : Nat} {z : List Int}, ArgInts .u64 w a n z → ∀ i, 0 ≤ zv z i ∧ zv z i ≤ 18446744073709551615 := fun {a n z} h i => by
    unfold zv
    by_cases hi : i < z.length
    · have h1 := h.2.2.1 _ (List.getElem_mem hi)
      simp [Lit.wf, IntKind.min, IntKind.max, IntKind.signed, IntKind.bits] at h1
      rw [getD_in hi]; omega
    · rw [getD_out (by omega)]; omega
  have HU := Box.mk (uw g0)
  have HV := Box.mk (uw g1)
  have HA := Box.mk g0
  have HC := Box.mk g1
  clear g0 g1 uw
  go_enter Try.func4, Try.ntmps4
  go_upto_region 3 with (go_at_call 8; refine (awake04_any _).mono ?_; rintro e w1 ⟨rfl, hb1⟩; have HB1 := Box.mk hb1; have HNW := Box.mk (wt_new w1); clear hb1)
  by_cases hn : 100 < n ∨ 60 < m
  · by_cases hn1 : 100 < n
    · have hni : (100 : Int) < n := by omega
      go_wp2
      go_ret
      exact ⟨rfl, HB1.out⟩
    · have hni : ¬ (100 : Int) < n := by omega
      have hmi : (60 : Int) < m := by omega
      go_wp2
      go_ret
      exact ⟨rfl, HB1.out⟩
  · have hni : ¬ (100 : Int) < n := by omega
    have hmi : ¬ (60 : Int) < m := by omega
    have hn100 : n ≤ 100 := by omega
    have hm60 : m ≤ 60 := by omega
    clear hn
    go_upto_region 6 with (go_at_call 9; (with_reducible refine HNW.out.mono ?_); rintro e w2 ⟨pa, Fa, rfl, h1, hF, h2⟩; have HN1 := Box.mk (And.intro h1 (And.intro hF h2)); have HNW2 := Box.mk (wt_new w2); clear h1 h2 hF)
    go_upto_region 7 with (go_at_call 9; (with_reducible refine HNW2.out.mono ?_); rintro e w3 ⟨pb, Fb, rfl, h1, hF, h2⟩; have HS := Box.mk (P2.new HB1.out HN1.out.1 HN1.out.2.1 HN1.out.2.2 h1 hF h2); clear h1 h2 hF)
    clear HNW HB1 HN1 HNW2
    rw [← gN_zero z] at HS
    go_wp2
    go_loopw [7, 8, 9] (fun s7 s8 _ wr => ∃ i K : Nat, i ≤ n ∧ K ≤ i ∧ s8 = .int .i64 i ∧ s7 = .int .i64 K ∧ Box ((okN z i).length = K) ∧ Box (P2 w wr pa 0 (gN z i) pb 0 (gN z i) (.slice none 0 0) [] (.slice none 0 0) [])) (fun _ s8 _ _ => n - (intOf s8).toNat)
    case atStart => exact ⟨0, 0, by omega, by omega, rfl, rfl, ⟨rfl⟩, HS⟩
    case round =>
      clear HS
      obtain ⟨i, K, hin, hKi, rfl, rfl, HK, HS⟩ := hrel
      by_cases hlt : i < n
      · obtain ⟨b, off, rfl, hbw, hcell⟩ := HA.out.get (by omega)
        have hu := HU.out i
        have cx0 := hcell i hlt
        have htm : ((tm z i : Nat) : Int) = zv z i := by unfold tm; omega
        rw [← htm] at cx0
        obtain ⟨c, hc⟩ : ∃ c, setC 0 (i : Int) (tm z i) = c := ⟨_, rfl⟩
        have cx := (HS.out.below.cell (p := ⟨b, off + i, none⟩) hbw).trans cx0
        have HCX := Box.mk cx0
        have HR := Box.mk (p2_set w _ pa 0 _ pb 0 _ _ _ _ _ HS.out i (tm z i) (kwf_of (by omega) (by omega)) (by omega) c _ hc (set_g z i))
        have HRB := Box.mk (fun w' hs => p2_set w w' pb 0 (gN z i) pa 0 (gN z (i + 1)) (.slice none 0 0) [] (.slice none 0 0) [] hs i (tm z i) (kwf_of (by omega) (by omega)) (by omega) c _ hc (set_g z i))
        have HY : Box (c = 0 → (okN z (i + 1)).length = K + 1) := ⟨fun e => by rw [okN_yes (hc.trans e), HK.out]⟩
        have HN : Box (c ≠ 0 → (okN z (i + 1)).length = K) := ⟨fun e => by rw [okN_no (fun h => e (hc.symm.trans h)), HK.out]⟩
        have hil : (i : Int) < n := by omega
        clear hcell hu htm cx0 hc
        generalize tm z i = t at HR HRB cx HCX
        have hcc : (c == c) = true := by simp
        have hcn : (c != c) = false := by simp
        go_upto_region 14 with (first
          | (go_at_call 10; (with_reducible refine HR.out.mono ?_); rintro e w4 ⟨rfl, hs⟩; have HS := Box.mk hs.symm; have d4 := (hs.below.cell (p := ⟨b, off + i, none⟩) hbw).trans HCX.out; clear hs)
          | (go_at_call 10; (with_reducible refine (HRB.out _ HS.out).mono ?_); rintro e w5 ⟨rfl, hs⟩; have HS := Box.mk hs.symm; clear hs))
        by_cases h0 : c = 0
        · have hz : (c == 0) = true := by simp [h0]
          have HK2 := Box.mk (HY.out h0)
          clear HY HN h0
          go_wp2
          go_roundw
          case rel => exact ⟨i + 1, K + 1, by omega, by omega, by go_num, by go_num, HK2, HS⟩
          case measure => simp [intOf] <;> omega
        · have hz : (c == 0) = false := beq_eq_false_iff_ne.2 h0
          have HK2 := Box.mk (HN.out h0)
          clear HY HN h0
          go_wp2
          go_roundw
          case rel => exact ⟨i + 1, K, by omega, by omega, by go_num, rfl, HK2, HS⟩
          case measure => simp [intOf] <;> omega
      · obtain rfl : i = n := by omega
        have hil : ¬ (i : Int) < i := by omega
        have HS1 : Box (∃ w0', w0' = w) := ⟨⟨w, rfl⟩⟩
        rename World => w6
        go_upto_block 2 with fail
        go_wp2
        have HS : Box (P2 w w6 pa 0 (goneT (gN z i) 0) pb 0 (gN z i) (.slice none 0 0) [] (.slice none 0 0) []) := ⟨by rw [gone_zero]; exact HS.out⟩
        have HG0 := Box.mk (got_start z i)
        have HKN := HK
        go_loopw [10, 11, 12, 13, 14] (fun s10 s11 s12 _ _ wr => ∃ (j now : Nat) (va : Option Addr) (vc : Nat) (parts : List Nat), j ≤ m ∧ now < 4611686018427387904 ∧ s12 = .int .i64 j ∧ s11 = .int .u64 now ∧ s10 = .slice va parts.length vc ∧ Box (GoT (gN z i) now parts) ∧ Box (P2 w wr pa now (goneT (gN z i) now) pb 0 (gN z i) (.slice va parts.length vc) parts (.slice none 0 0) [])) (fun _ _ s12 _ _ _ => m - (intOf s12).toNat)
        case atStart => exact ⟨0, 0, none, 0, [], by omega, by omega, rfl, rfl, rfl, HG0, HS⟩
        case round =>
          clear HS HG0 HS1
          obtain ⟨j, now, va, vc, parts, hjm, hnow, rfl, rfl, rfl, HG, HS⟩ := hrel
          by_cases hj : j < m
          · have hji : (j : Int) < m := by omega
            obtain ⟨b, off, rfl, hbw, hcell⟩ := HC.out.get (by omega)
            have hv := HV.out j
            have cx0 := hcell j hj
            obtain ⟨s, hs⟩ : ∃ s : Nat, zv y j = s := ⟨(zv y j).toNat, by omega⟩
            rw [hs] at cx0 hv
            have cx := (HS.out.below.cell (p := ⟨b, off + j, none⟩) hbw).trans cx0
            have hs64 : s ≤ 18446744073709551615 := by omega
            clear hcell hs cx0 hv
            by_cases h1 : 2305843009213693952 < s
            · have eA : ((2305843009213693952 : Int) < (s : Int)) = True := eq_true (by omega)
              clear h1 hs64
              go_wp2
              go_roundw
              case rel => exact ⟨j + 1, now, va, vc, parts, by omega, hnow, by go_num, rfl, rfl, HG, HS⟩
              case measure => simp [intOf] <;> omega
            · have eA : ((2305843009213693952 : Int) < (s : Int)) = False := eq_false (by omega)
              have hs61 : s ≤ 2305843009213693952 := by omega
              by_cases h2 : 4611686018427387904 ≤ now + s
              · have eB : ((4611686018427387904 : Int) ≤ (now : Int) + (s : Int)) = True := eq_true (by omega)
                clear h1 h2 hs64
                go_wp2
                go_roundw
                case rel => exact ⟨j + 1, now, va, vc, parts, by omega, hnow, by go_num, rfl, rfl, HG, HS⟩
                case measure => simp [intOf] <;> omega
              · have eB : ((4611686018427387904 : Int) ≤ (now : Int) + (s : Int)) = False := eq_false (by omega)
                have HR := p2_go w _ pa now _ pb 0 _ _ _ _ _ HS.out (now + s) (by omega) (by omega)
                rw [show ((now + s : Nat) : Int) = (now : Int) + (s : Int) from by omega] at HR
                have HR := Box.mk HR
                have HGA : Box (∀ out, GoT (goneT (gN z i) now) (now + s) out → GoT (gN z i) (now + s) (parts ++ out) ∧ goneT (goneT (gN z i) now) (now + s) = goneT (gN z i) (now + s) ∧ (parts ++ out).length ≤ 1000) := ⟨fun out h => by
                  have h3 := got_append (by omega) HG.out h
                  exact ⟨h3, goneT_goneT (by omega), got_len h3 (fun i' a h => by have := (gN_some.1 h).1; omega)⟩⟩
                obtain ⟨i0, hi0, hz0, hz1, hz2⟩ := info_parts Try.infoI
                have hnow2 : now + s < 4611686018427387904 := by omega
                clear h1 h2 hs64
                go_upto_region 26 with (go_at_call 11; (with_reducible refine HR.out.mono ?_); rintro e w7 ⟨vl, out, vo, rfl, hgo, hs⟩; obtain ⟨q1, q2, q3⟩ := HGA.out out hgo; rw [q2] at hs; have HG2 := Box.mk q1; have HLN := Box.mk q3; have HS2 := Box.mk hs; clear hs hgo q1 q2 q3)
                obtain ⟨_, _, _, hown⟩ := HS2.out.rowV.1
                have HOWN := Box.mk hown
                have HSRC := Box.mk (HS2.out.rowV.2.src rfl)
                have HLL : Box (((ints' out).map (Value.int .i64)).length = out.length * 1) := ⟨by simp [ints']⟩
                have HBS := Box.mk HS2.out.below.size
                have hln : parts.length + out.length ≤ 1000 := by have := HLN.out; rw [List.length_append] at this; exact this
                clear hown HR HGA HLN
                go_wp2_with (at_builtin; refine wpList_append_rowg rfl (.tmp 91) (.tmp 92) 28 rfl w.heap.size 3 i0 (.int .i64 0) 1 8 Try.underlying28 hi0 hz0 hz1 hz2 rfl (by decide) (.slice va parts.length vc) parts.length ((ints' parts).map (Value.int .i64)) rfl HOWN.out vl out.length vo ((ints' out).map (Value.int .i64)) rfl HLL.out HSRC.out ?h1 ?b1 ?b2 HBS.out _ rfl _ rfl ?next)
                case h1 => simp [Value.oneCell']
                case b1 => unfold maxLen; omega
                case b2 => omega
                case next =>
                  intro ao cap w8 ho8 hg8 hat8
                  have HS3 := Box.mk (HS2.out.grown (n := parts.length + out.length) (by rw [show ints' (parts ++ out) = ints' parts ++ ints' out from by simp [ints'], List.map_append]; exact ho8) (by rw [List.length_append]) hg8 hat8)
                  have e3 : parts.length + out.length = (parts ++ out).length := by rw [List.length_append]
                  rw [e3] at HS3
                  have HE3 := Box.mk e3
                  clear ho8 hg8 hat8 e3
                  go_wp2
                  go_roundw
                  case rel => exact ⟨j + 1, now + s, ao, cap, parts ++ out, by omega, hnow2, by go_num, by go_num, by rw [HE3.out], HG2, HS3⟩
                  case measure => simp [intOf] <;> omega
          · have hji : ¬ (j : Int) < m := by omega
            have HRA := Box.mk (p2_go w _ pa now _ pb 0 _ _ _ _ _ HS.out 4611686018427387903 (by omega) (by omega))
            go_upto_region 28 with (go_at_call 11; refine HRA.out.mono ?_; rintro e w7 ⟨vl, l, vo, rfl, hgo, hs⟩; have HS2 := Box.mk hs; have HGO := Box.mk (got_append (by omega) HG.out hgo); clear hs hgo)
            have HRB := Box.mk (p2_go' w _ pb 0 _ pa _ _ _ _ _ _ HS2.out.symm 4611686018427387903 (by omega) (by omega))
            go_upto_region 29 with (go_at_call 11; refine HRB.out.mono ?_; rintro e w8 ⟨vb, all, vd, rfl, hgo, hs, hrow⟩; have HS3 := Box.mk hs; have HROW := Box.mk hrow; have HEQ := Box.mk (And.intro (got_eq HGO.out hgo) (all_len hgo)); clear hs hgo hrow)
            obtain ⟨rfl, hal⟩ := HEQ.out
            obtain ⟨_, _, _, hown⟩ := HS3.out.rowV.1
            have HOWN := Box.mk hown
            have HSRC := Box.mk (HS3.out.rowV.2.src rfl)
            have HLL : Box (((ints' l).map (Value.int .i64)).length = l.length * 1) := ⟨by simp [ints']⟩
            have HBS := Box.mk HS3.out.below.size
            obtain ⟨Q, hQ⟩ : ∃ Q, (parts ++ l).length = Q := ⟨_, rfl⟩
            have hpl : parts.length + l.length = Q := by rw [← hQ, List.length_append]
            have hQK : Q = K := by rw [← hQ, hal, show i = i from rfl]; exact HKN.out
            subst hQK
            have HPL := Box.mk hpl
            have hQ100 : Q ≤ 1000 := by omega
            obtain ⟨i0, hi0, hz0, hz1, hz2⟩ := info_parts Try.infoI
            have HINT : Box (∀ (w9 : World) ao cap, OutAt w.heap.size w9 (.slice ao Q cap) (parts ++ l) → OutAt w7.heap.size w9 (.slice vb Q vd) (parts ++ l) → Calls Try.prog 12 #[.slice ao Q cap, .slice vb Q vd] w9 fun e w' => e = .returned (.bool true) ∧ Below w9.heap.size w9 w') := ⟨fun w9 ao cap h1 h2 => by
              have e1 := h1.rowAt
              have e2 := h2.rowAt
              rw [hQ] at e1 e2
              exact rints_any _ _ ao vb Q cap vd (ints' (parts ++ l)) w9 e1 e2 (by omega)⟩
            rw [hQ] at HROW
            clear hown hpl hal HEQ
            rw [hQ]
            clear hQ
            have HG2 : Box (cntT (goneT (goneT (gN z i) now) 4611686018427387903) = 0 ∧ cntT (goneT (gN z i) 4611686018427387903) = 0) := ⟨all_gone (by omega), all_gone0⟩
            have hQQ : ((Q : Int) == (Q : Int)) = true := by simp
            go_wp2_with (first
              | (at_builtin; refine wpList_append_rowg rfl (.tmp 111) (.tmp 112) 28 rfl w.heap.size 3 i0 (.int .i64 0) 1 8 Try.underlying28 hi0 hz0 hz1 hz2 rfl (by decide) (.slice va parts.length vc) parts.length ((ints' parts).map (Value.int .i64)) rfl HOWN.out vl l.length vo ((ints' l).map (Value.int .i64)) rfl HLL.out HSRC.out ?h1 ?b1 ?b2 HBS.out Q HPL.out _ rfl ?next))
            case h1 => simp [Value.oneCell']
            case b1 => have := HPL.out; unfold maxLen; omega
            case b2 => have := HPL.out; omega
            case next =>
              intro ao cap w9 ho9 hg9 hat9
              have ho9' : w9.ownsRow w.heap.size 3 1 (.slice ao Q cap) Q ((ints' (parts ++ l)).map (Value.int .i64)) := by
                rw [show ints' (parts ++ l) = ints' parts ++ ints' l from by simp [ints'], List.map_append]; exact ho9
              have hQl : Q = (parts ++ l).length := by rw [List.length_append]; exact HPL.out.symm
              have HS4 := Box.mk (HS3.out.grown (n := Q) ho9' hQl hg9 hat9)
              have hfr : Fr (fun k => (Value.slice va parts.length vc).ownBlock = some k) w8 w9 := (Fr.refl _ _).grown hg9 (fun k e => .inl e)
              have HI := Box.mk (HINT.out w9 ao cap ⟨ao, cap, by rw [← hQl], by rw [← hQl]; exact ho9'⟩ (HROW.out.later hfr (fun k hk e => by
                have h1 := (HROW.out.lt hk).1
                have h2 := (HS2.out.rowV.1.lt e).2
                omega)))
              have HL1 := Box.mk (fun w' (hb : Below w9.heap.size w9 w') => p2_len w w' pa _ _ pb _ _ _ _ _ _ (HS4.out.later hb).symm)
              have HL2 := Box.mk (fun w' (hb : Below w9.heap.size w9 w') => p2_len w w' pb _ _ pa _ _ _ _ _ _ (HS4.out.later hb))
              rw [HG2.out.1] at HL1
              rw [HG2.out.2] at HL2
              clear ho9 hg9 hat9 ho9' hQl hfr
              go_wp2_with (first
                | (go_at_call 12; (with_reducible refine HI.out.mono ?_); rintro e w10 ⟨rfl, hb⟩; have HB := Box.mk hb; clear hb)
                | (go_at_call 13; (with_reducible refine (HL1.out _ HB.out).mono ?_); rintro e w11 ⟨rfl, rfl⟩)
                | (go_at_call 13; (with_reducible refine (HL2.out _ HB.out).mono ?_); rintro e w12 ⟨rfl, rfl⟩))
              go_ret
              exact ⟨rfl, HS4.out.below.trans (HB.out.mono HS4.out.below.size)⟩

/-! The row's step. -/
theorem own : ownKnob Try.prog.godebug = none := by kernel_rfl
theorem laidOut : laidOutB Try.prog = true := by kernel_rfl

set_option maxRecDepth 100000 in
theorem lifted (os : Os) (started : os.Started) (H : Type) (enc : TypeId × Value → H) :
    ReturnsInHanded {} Try.checked os 4 .any (Rows.wheelPartsSpec.pre6 enc Try.prog Try.f4 Rows.wheelPartsRow.domain false) (Rows.wheelPartsSpec.post enc Try.prog Try.f4 false true false false) := by
  refine returnsInHanded_of_change (C := Try.checked) own started (by kernel_rfl) Try.func4
    (ChangeSpec.witness6 (enc := enc) (C := Try.checked) false ⟨#[], #[.slice none 0 0, .slice none 0 0], []⟩ 8 (by kernel_rfl) (by kernel_rfl) (by kernel_rfl) (by kernel_rfl)) ?_
  intro W base args ds gs before hval0 hW hcnd _
  have hval : ∀ (j : Nat) t v, Try.f4.params[j]? = some t → args[j]? = some v → Value.okWide Try.prog W .any base t v := hval0
  have hW' := hW
  obtain ⟨p, q, hA0, hV, rfl, hfz, hnd⟩ := hW
  have hA : DataW.TrodAll enc Try.prog W 0 (fun _ => true) true Try.f4.params.toList args.toList ds p := hA0
  rw [Try.params4] at hA hval
  obtain ⟨v0, vs0, d0, ds0, p0, q0, hargs, rfl, rfl, h0, r0⟩ := trodAll_cons hA
  obtain ⟨v1, vs1, d1, ds1, p1, q1, rfl, rfl, rfl, h1, r1⟩ := trodAll_cons r0
  obtain ⟨rfl, rfl, rfl⟩ := trodAll_nil r1
  obtain rfl : args = #[v0, v1] := by cases args; simp_all
  obtain ⟨rfl, rfl⟩ := trodVars_none hV
  obtain ⟨a0, len0, cap0, rfl⟩ := okWide_slice Try.underlying32 (hval 0 32 v0 rfl rfl)
  have k0 := h0
  have lt0 : ∀ x ∈ p0, x.block < W.heap.size := by obtain ⟨m, hm⟩ := k0; exact DataW.trod_lt m _ _ _ hm
  obtain ⟨z0, w0⟩ : ∃ zs, ArgInts .u64 W a0 len0 zs := by
    obtain ⟨fuel, hf⟩ := h0
    rcases open_ints Try.underlying32 Try.underlying22 (by kernel_rfl) hf with ⟨hcs, _⟩ | ⟨x, l, c, zs, hcs, _, hl, hm, hz, _, hcell, hwz⟩
    · simp [Value.cells] at hcs
      obtain ⟨rfl, rfl, rfl⟩ := hcs
      exact ⟨[], rfl, by omega, by simp, fun h => by omega⟩
    · simp [Value.cells] at hcs
      obtain ⟨rfl, rfl, rfl⟩ := hcs
      exact ⟨zs.take len0, argInts_of_ints hl hm (by simpa using hz) hcell hwz⟩
  obtain ⟨a1, len1, cap1, rfl⟩ := okWide_slice Try.underlying32 (hval 1 32 v1 rfl rfl)
  have k1 := h1
  have lt1 : ∀ x ∈ p1, x.block < W.heap.size := by obtain ⟨m, hm⟩ := k1; exact DataW.trod_lt m _ _ _ hm
  obtain ⟨z1, w1⟩ : ∃ zs, ArgInts .u64 W a1 len1 zs := by
    obtain ⟨fuel, hf⟩ := h1
    rcases open_ints Try.underlying32 Try.underlying22 (by kernel_rfl) hf with ⟨hcs, _⟩ | ⟨x, l, c, zs, hcs, _, hl, hm, hz, _, hcell, hwz⟩
    · simp [Value.cells] at hcs
      obtain ⟨rfl, rfl, rfl⟩ := hcs
      exact ⟨[], rfl, by omega, by simp, fun h => by omega⟩
    · simp [Value.cells] at hcs
      obtain ⟨rfl, rfl, rfl⟩ := hcs
      exact ⟨zs.take len1, argInts_of_ints hl hm (by simpa using hz) hcell hwz⟩
  clear hA0 hval0
  refine (walk a0 len0 cap0 z0 a1 len1 cap1 z1 W w0 w1).mono fun e W' ⟨he, bel⟩ => ?_
  subst he
  exact ⟨_, rfl, _, _, _, [], _, [], hW', trodAll_mk1 (shut_bool Try.underlying4 _), (trodAll_cons_mk (Below.trod laidOut (by kernel_rfl) (of_decide_eq_true (by kernel_rfl)) k0 bel lt0) (trodAll_cons_mk (Below.trod laidOut (by kernel_rfl) (of_decide_eq_true (by kernel_rfl)) k1 bel lt1) trodAll_mk0)), rfl, bel.frame _, fun h => by cases h⟩

theorem over : Rows.wheelPartsRow.holds Try.pinned (OpenSpec.ofChange Rows.wheelPartsSpec) :=
  OpenClaim.holds_of_wide 4 Try.f4 rfl rfl rfl rfl rfl rfl rfl ⟨rfl, rfl, rfl, rfl, rfl⟩ rfl rfl rfl rfl rfl (by kernel_rfl) Try.func4 (by kernel_rfl)
    (of_decide_eq_true (by kernel_rfl)) (by unfold Func.isWrapper; first | (rw [if_pos (by decide +kernel)]; kernel_rfl) | (rw [if_neg (by decide +kernel)]; exact ⟨rfl, rfl⟩))
    (fun os started H enc _ => lifted os started H enc)

/-- The statement. -/
theorem proved : Rows.WheelPartsSaid := over
#print axioms proved

end Go.Proofs.Ythlaebleaooeiaa.wheelParts
