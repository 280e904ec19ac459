/-
  WheelNow: as the time goes on tick by tick each timer goes off in its tick, alike ones by rising numbers. No condition but the statement's.
-/
import Derived.Test.YthlaebleaooeiaaWhR
import Derived.Test.YthlaebleaooeiaaArgsS
import Derived.Test.YthlaebleaooeiaaRows
namespace Go.Proofs.Ythlaebleaooeiaa.wheelNow
open Go.ChangeShapes Go.WideShapes Go.ChangeAt Go.RowKit Go.Proofs.Ythlaebleaooeiaa

/-- Timer i's time. -/
def tm (z : List Int) (i : Nat) : Nat := 1 + (zv z i % 300).toNat
theorem tm_le (z : List Int) (i : Nat) : 1 ≤ tm z i ∧ tm z i ≤ 300 := by unfold tm; omega
/-- The first i timers. -/
def gN (z : List Int) (i : Nat) : Nat → Option Nat := fun j => if j < i then some (tm z j) else none
theorem gN_some {z : List Int} {n j a : Nat} : gN z n j = some a ↔ j < n ∧ tm z j = a := by
  unfold gN
  by_cases h : j < n
  · rw [if_pos h]; simp [h]
  · rw [if_neg h]; simp [h]
theorem gN_zero (z : List Int) : gN z 0 = fun _ => none := by funext j; simp [gN]
theorem set_c (z : List Int) (i : Nat) (hi : i < 100) : setC 0 (i : Int) (tm z i) = 0 := setC_zero.2 (by have := tm_le z i; omega)
theorem set_g (z : List Int) (i : Nat) (hi : i < 100) : setT 0 (gN z i) (i : Int) (tm z i) = gN z (i + 1) := by
  unfold setT
  rw [if_pos (set_c z i hi)]
  funext j
  show (if j = (i : Int).toNat then some (tm z i) else gN z i j) = _
  rw [Int.toNat_natCast]
  unfold gN
  by_cases e : j = i
  · subst e; rw [if_pos rfl, if_pos (by omega)]
  · rw [if_neg e]
    by_cases h : j < i
    · rw [if_pos h, if_pos (by omega)]
    · rw [if_neg h, if_neg (by omega)]
/-- The timers below i that go off at t. -/
def flt (z : List Int) (t i : Nat) : List Nat := (List.range i).filter (fun j => decide (tm z j = t))
theorem flt_yes {z : List Int} {t i : Nat} (h : tm z i = t) : flt z t (i + 1) = flt z t i ++ [i] := by
  unfold flt; rw [List.range_succ, List.filter_append]; simp [h]
theorem flt_no {z : List Int} {t i : Nat} (h : tm z i ≠ t) : flt z t (i + 1) = flt z t i := by
  unfold flt; rw [List.range_succ, List.filter_append]; simp [h]
theorem flt_at {z : List Int} {t n i : Nat} (hi : i < n) (h : tm z i = t) : (flt z t n)[(flt z t i).length]? = some i := by
  induction n with
  | zero => omega
  | succ n ih =>
    by_cases e : i = n
    · subst e
      rw [flt_yes h, List.getElem?_append_right (Nat.le_refl _)]
      simp
    · have h0 := ih (by omega)
      have hl := (List.getElem?_eq_some_iff.1 h0).1
      by_cases g : tm z n = t
      · rw [flt_yes g, List.getElem?_append_left hl]; exact h0
      · rw [flt_no g]; exact h0
theorem flt_len (z : List Int) (t i : Nat) : (flt z t i).length ≤ i := Nat.le_trans (List.length_filter_le _ _) (by simp)
theorem flt_got {z : List Int} {n t : Nat} {out : List Nat} (h : GoT (goneT (gN z n) t) (t + 1) out) : out = flt z (t + 1) n := got_eq h ⟨by
  have h1 : (flt z (t + 1) n).Pairwise (· < ·) := List.Pairwise.filter _ List.pairwise_lt_range
  refine h1.imp_of_mem fun {a b} ha hb hab => .inr ⟨?_, hab⟩
  unfold flt at ha hb
  simp only [List.mem_filter, List.mem_range, decide_eq_true_eq] at ha hb
  have e1 : goneT (gN z n) t a = some (t + 1) := goneT_some.2 ⟨gN_some.2 ha, by omega⟩
  have e2 : goneT (gN z n) t b = some (t + 1) := goneT_some.2 ⟨gN_some.2 hb, by omega⟩
  simp [tmT, e1, e2], fun i => by
  unfold flt
  simp only [List.mem_filter, List.mem_range, decide_eq_true_eq]
  constructor
  · intro h; exact ⟨t + 1, goneT_some.2 ⟨gN_some.2 h, by omega⟩, Nat.le_refl _⟩
  · rintro ⟨a, h1, h2⟩
    obtain ⟨h3, h4⟩ := goneT_some.1 h1
    obtain ⟨h5, h6⟩ := gN_some.1 h3
    exact ⟨h5, by omega⟩⟩
theorem gone_gone {g : Nat → Option Nat} {s t : Nat} (h : s ≤ t) : goneT (goneT g s) t = goneT g t := by
  funext i
  refine Option.ext fun a => ?_
  rw [goneT_some, goneT_some, goneT_some]
  constructor
  · rintro ⟨⟨h1, _⟩, h2⟩; exact ⟨h1, h2⟩
  · rintro ⟨h1, h2⟩; exact ⟨⟨h1, by omega⟩, h2⟩
theorem gone_zero (z : List Int) (n : Nat) : goneT (gN z n) 0 = gN z n := by
  funext i
  refine Option.ext fun a => ?_
  rw [goneT_some]
  constructor
  · intro h; exact h.1
  · intro h; refine ⟨h, ?_⟩; have := tm_le z i; have := (gN_some.1 h).2; omega
theorem gone_none (z : List Int) (n : Nat) : cntT (goneT (gN z n) 300) = 0 := by
  have : goneT (gN z n) 300 = fun _ => none := by
    funext i
    refine Option.ext fun a => ?_
    rw [goneT_some]
    constructor
    · rintro ⟨h1, h2⟩; have := tm_le z i; have := (gN_some.1 h1).2; omega
    · intro h; cases h
  rw [this]
  unfold cntT idsOf
  simp

set_option maxHeartbeats 16000000 in
set_option maxRecDepth 100000 in
theorem walk (a0 : Option Addr) (n cap0 : Nat) (z : List Int) (w : World) (g0 : ArgInts .u16 w a0 n z) :
    Calls Try.prog 5 #[.slice a0 n cap0] w fun e w' => e = .returned (.bool true) ∧ Below w.heap.size w w' := by
  have hn63 := g0.2.1
  have HU : Box (∀ i, i < n → 0 ≤ zv z i ∧ zv z i ≤ 65535) := ⟨fun i hi => by
    have h1 := g0.2.2.1 (zv z i) (by unfold zv; rw [getD_in (by rw [g0.1]; exact hi)]; exact List.getElem_mem _)
    simp [Lit.wf, IntKind.min, IntKind.max, IntKind.signed, IntKind.bits] at h1
    omega⟩
  have HA := Box.mk g0
  clear g0
  go_enter Try.func5, Try.ntmps5
  go_upto_region 3 with (go_at_call 8; refine (awake04_any _).mono ?_; rintro e w1 ⟨rfl, hb1⟩; have HB1 := Box.mk hb1; have HNW := Box.mk (wt_new w1); clear hb1)
  by_cases hn : 100 < n
  · have hni : (100 : Int) < n := by omega
    go_wp2
    go_ret
    exact ⟨rfl, HB1.out⟩
  · have hni : ¬ (100 : Int) < n := by omega
    go_upto_region 8 with (go_at_call 9; (with_reducible refine HNW.out.mono ?_); rintro e w2 ⟨p, F, rfl, h1, hF, h2⟩; have HS := Box.mk (WS.new HB1.out h1 hF h2 [] (fun q hq => by cases hq)); clear h1 h2 hF)
    clear HNW HB1
    rw [← gN_zero z] at HS
    go_wp2
    go_loopw [4] (fun s4 wr => ∃ i : Nat, i ≤ n ∧ s4 = .int .i64 i ∧ Box (WS w wr p 0 (gN z i) [])) (fun s4 _ => n - (intOf s4).toNat)
    case atStart => exact ⟨0, by omega, rfl, HS⟩
    case round =>
      clear HS
      obtain ⟨i, hin, rfl, HS⟩ := hrel
      by_cases hlt : i < n
      · obtain ⟨b, off, rfl, hbw, hcell⟩ := HA.out.get (by omega)
        have cx := (HS.out.below.cell (p := ⟨b, off + i, none⟩) hbw).trans (hcell i hlt)
        have hu := HU.out i hlt
        have HR := ws_set w _ p 0 _ [] HS.out i (tm z i) (kwf_of (by omega) (by omega)) (by have := tm_le z i; omega) 0 _ (set_c z i (by omega)) (set_g z i (by omega))
        obtain ⟨r, hr⟩ : ∃ r : Nat, zv z i % 300 = r := ⟨(zv z i % 300).toNat, by omega⟩
        have htm : ((tm z i : Nat) : Int) = 1 + (r : Int) := by unfold tm; omega
        rw [htm] at HR
        have HR := Box.mk HR
        have hr3 : (r : Int) < 300 := by omega
        clear htm hcell
        generalize zv z i = y at cx hr hu
        have hil : (i : Int) < n := by omega
        go_wp2_with (go_at_call 10; (with_reducible refine HR.out.mono ?_); rintro e w3 ⟨rfl, hs⟩; have HS := Box.mk hs; clear hs)
        go_roundw
        case rel => exact ⟨i + 1, by omega, by go_num, HS⟩
        case measure => simp [intOf] <;> omega
      · obtain rfl : i = n := by omega
        have hil : ¬ (i : Int) < i := by omega
        rw [← gone_zero] at HS
        rename World => w3
        go_upto_block 2 with fail
        go_wp2
        go_loopw [5, 6, 7, 8, 9] (fun s5 _ _ _ _ wr => ∃ s t : Nat, Box (t = s + 1) ∧ t ≤ 301 ∧ s5 = .int .i64 t ∧ Box (WS w wr p s (goneT (gN z i) s) [])) (fun s5 _ _ _ _ _ => 301 - (intOf s5).toNat)
        case atStart => exact ⟨0, 1, ⟨rfl⟩, by omega, rfl, HS⟩
        case round =>
          clear HS
          obtain ⟨s, t, HST, ht1, rfl, HS⟩ := hrel
          by_cases ht : t ≤ 300
          · have hti : (t : Int) ≤ 300 := by omega
            have HR := Box.mk (ws_go2 w _ p s _ [] HS.out t (by have := HST.out; omega) (by omega))
            have HT : Box (∀ out, GoT (goneT (gN z i) s) t out → out = flt z t i ∧ goneT (goneT (gN z i) s) t = goneT (gN z i) t) := ⟨fun out h => by
              have hst := HST.out
              refine ⟨?_, gone_gone (by omega)⟩
              subst hst
              exact flt_got h⟩
            go_upto_region 17 with (go_at_call 11; (with_reducible refine HR.out.mono ?_); rintro e w4 ⟨va, out, vc, X, rfl, hgo, hs, -, hrow⟩; obtain ⟨e1, e2⟩ := HT.out out hgo; subst e1; rw [e2] at hs; have HS := Box.mk hs; have HROW := Box.mk hrow; have HNO := Box.mk (ws_now w _ p t _ X hs); clear hs hgo hrow e2)
            clear HR HT
            obtain ⟨L, hL⟩ : ∃ L, (flt z t i).length = L := ⟨_, rfl⟩
            have HL := Box.mk hL
            have hL63 : L ≤ 100 := by have := flt_len z t i; omega
            rw [hL]
            clear hL
            go_upto_block 4 with (go_at_call 14; (with_reducible refine HNO.out.mono ?_); rintro e w5 ⟨rfl, rfl⟩)
            go_wp2
            go_loop [8, 9] (fun s8 s9 => ∃ j K : Nat, j ≤ i ∧ K ≤ j ∧ s9 = .int .i64 j ∧ s8 = .int .i64 K ∧ Box ((flt z t j).length = K)) (fun _ s9 => i - (intOf s9).toNat)
            case atStart => exact ⟨0, 0, by omega, by omega, rfl, rfl, ⟨rfl⟩⟩
            case round =>
              obtain ⟨j, K, hji, hKj, rfl, rfl, HK⟩ := hrel
              by_cases hjl : j < i
              · obtain ⟨b, off, rfl, hbw, hcell⟩ := HA.out.get (by omega)
                have cx := (HS.out.below.cell (p := ⟨b, off + j, none⟩) hbw).trans (hcell j hjl)
                have hu := HU.out j hjl
                obtain ⟨r, hr⟩ : ∃ r : Nat, zv z j % 300 = r := ⟨(zv z j % 300).toNat, by omega⟩
                have htm : tm z j = 1 + r := by unfold tm; omega
                have hr3 : (r : Int) < 300 := by omega
                have hjil : (j : Int) < i := by omega
                by_cases he : tm z j = t
                · have hq : ((1 + (r : Int)) == (t : Int)) = true := by simp; omega
                  have hat := flt_at hjl he
                  have hK2 : (flt z t (j + 1)).length = K + 1 := by rw [flt_yes he, List.length_append, HK.out]; rfl
                  rw [HK.out] at hat
                  have hKL := (List.getElem?_eq_some_iff.1 hat).1
                  obtain ⟨b2, cur, hva, hX, hcu⟩ := HROW.out K hKL
                  have hij : ((flt z t i)[K] : Nat) = j := (List.getElem?_eq_some_iff.1 hat).2
                  rw [hij] at hcu
                  have d := (cell_blk (HS.out.blk hX) K).trans hcu
                  have hKl : ¬ (L : Int) ≤ K := by have := HL.out; omega
                  have hKl2 : (K : Int) < L := by have := HL.out; omega
                  have hjj : ((j : Int) == (j : Int)) = true := by simp
                  have HK3 := Box.mk hK2
                  rw [hva]
                  clear hat hK2 hKL hX hcu hij htm he hcell
                  generalize zv z j = y at cx hr hu
                  go_wp2
                  go_round
                  case rel => exact ⟨j + 1, K + 1, by omega, by omega, by go_num, by go_num, HK3⟩
                  case measure => simp [intOf] <;> omega
                · have hq : ((1 + (r : Int)) == (t : Int)) = false := beq_eq_false_iff_ne.2 (by omega)
                  have HK3 : Box ((flt z t (j + 1)).length = K) := ⟨by rw [flt_no he]; exact HK.out⟩
                  clear htm he hcell
                  generalize zv z j = y at cx hr hu
                  go_wp2
                  go_round
                  case rel => exact ⟨j + 1, K, by omega, by omega, by go_num, rfl, HK3⟩
                  case measure => simp [intOf] <;> omega
              · obtain rfl : j = i := by omega
                obtain rfl : L = K := HL.out.symm.trans HK.out
                have hjl2 : ¬ (j : Int) < j := by omega
                have hS0 : Box (WS w w4 p t (goneT (gN z j) t) []) := ⟨by
                  obtain ⟨F, h1, h2, h3, _⟩ := HS.out
                  exact ⟨F, h1, h2, h3, fun q hq => by cases hq⟩⟩
                go_wp2
                go_roundw
                case rel => exact ⟨t, t + 1, ⟨rfl⟩, by omega, by go_num, hS0⟩
                case measure => simp [intOf] <;> omega
          · obtain rfl : t = 301 := by omega
            obtain rfl : s = 300 := by have := HST.out; omega
            have HLN := ws_len w _ p 300 _ [] HS.out
            rw [gone_none] at HLN
            have HLN := Box.mk HLN
            go_wp2_with (go_at_call 13; (with_reducible refine HLN.out.mono ?_); rintro e w5 ⟨rfl, rfl⟩)
            go_ret
            exact ⟨rfl, HS.out.below⟩

/-! The row's step. -/
theorem own : ownKnob Try.prog.godebug = none := by kernel_rfl
theorem laidOut : laidOutB Try.prog = true := by kernel_rfl

set_option maxRecDepth 100000 in
theorem lifted (os : Os) (started : os.Started) (H : Type) (enc : TypeId × Value → H) :
    ReturnsInHanded {} Try.checked os 5 .any (Rows.wheelNowSpec.pre6 enc Try.prog Try.f5 Rows.wheelNowRow.domain false) (Rows.wheelNowSpec.post enc Try.prog Try.f5 false true false false) := by
  refine returnsInHanded_of_change (C := Try.checked) own started (by kernel_rfl) Try.func5
    (ChangeSpec.witness6 (enc := enc) (C := Try.checked) false ⟨#[], #[.slice none 0 0], []⟩ 8 (by kernel_rfl) (by kernel_rfl) (by kernel_rfl) (by kernel_rfl)) ?_
  intro W base args ds gs before hval0 hW hcnd _
  have hval : ∀ (j : Nat) t v, Try.f5.params[j]? = some t → args[j]? = some v → Value.okWide Try.prog W .any base t v := hval0
  have hW' := hW
  obtain ⟨p, q, hA0, hV, rfl, hfz, hnd⟩ := hW
  have hA : DataW.TrodAll enc Try.prog W 0 (fun _ => true) true Try.f5.params.toList args.toList ds p := hA0
  rw [Try.params5] at hA hval
  obtain ⟨v0, vs0, d0, ds0, p0, q0, hargs, rfl, rfl, h0, r0⟩ := trodAll_cons hA
  obtain ⟨rfl, rfl, rfl⟩ := trodAll_nil r0
  obtain rfl : args = #[v0] := by cases args; simp_all
  obtain ⟨rfl, rfl⟩ := trodVars_none hV
  obtain ⟨a0, len0, cap0, rfl⟩ := okWide_slice Try.underlying36 (hval 0 36 v0 rfl rfl)
  have k0 := h0
  have lt0 : ∀ x ∈ p0, x.block < W.heap.size := by obtain ⟨m, hm⟩ := k0; exact DataW.trod_lt m _ _ _ hm
  obtain ⟨z0, w0⟩ : ∃ zs, ArgInts .u16 W a0 len0 zs := by
    obtain ⟨fuel, hf⟩ := h0
    rcases open_ints Try.underlying36 Try.underlying37 (by kernel_rfl) hf with ⟨hcs, _⟩ | ⟨x, l, c, zs, hcs, _, hl, hm, hz, _, hcell, hwz⟩
    · simp [Value.cells] at hcs
      obtain ⟨rfl, rfl, rfl⟩ := hcs
      exact ⟨[], rfl, by omega, by simp, fun h => by omega⟩
    · simp [Value.cells] at hcs
      obtain ⟨rfl, rfl, rfl⟩ := hcs
      exact ⟨zs.take len0, argInts_of_ints hl hm (by simpa using hz) hcell hwz⟩
  clear hA0 hval0
  refine (walk a0 len0 cap0 z0 W w0).mono fun e W' ⟨he, bel⟩ => ?_
  subst he
  exact ⟨_, rfl, _, _, _, [], _, [], hW', trodAll_mk1 (shut_bool Try.underlying4 _), (trodAll_cons_mk (Below.trod laidOut (by kernel_rfl) (of_decide_eq_true (by kernel_rfl)) k0 bel lt0) trodAll_mk0), rfl, bel.frame _, fun h => by cases h⟩

theorem over : Rows.wheelNowRow.holds Try.pinned (OpenSpec.ofChange Rows.wheelNowSpec) :=
  OpenClaim.holds_of_wide 5 Try.f5 rfl rfl rfl rfl rfl rfl rfl ⟨rfl, rfl, rfl, rfl, rfl⟩ rfl rfl rfl rfl rfl (by kernel_rfl) Try.func5 (by kernel_rfl)
    (of_decide_eq_true (by kernel_rfl)) (by unfold Func.isWrapper; first | (rw [if_pos (by decide +kernel)]; kernel_rfl) | (rw [if_neg (by decide +kernel)]; exact ⟨rfl, rfl⟩))
    (fun os started H enc _ => lifted os started H enc)

/-- The statement. -/
theorem proved : Rows.WheelNowSaid := over
#print axioms proved

end Go.Proofs.Ythlaebleaooeiaa.wheelNow
