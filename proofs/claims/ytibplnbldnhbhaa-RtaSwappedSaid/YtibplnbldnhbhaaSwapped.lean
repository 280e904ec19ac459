/-
  RtaSwapped: in whatever order tasks, and loads, stand, each has the same answer time. No condition but the statement's.
-/
import Derived.Test.YtibplnbldnhbhaaRtaN
import Derived.Test.YtibplnbldnhbhaaRtaS
import Derived.Test.YtibplnbldnhbhaaRows
namespace Go.Proofs.Ytibplnbldnhbhaa.rtaSwapped
open Go.ChangeShapes Go.WideShapes Go.ChangeAt Go.RowKit Go.Proofs.Ytibplnbldnhbhaa

/-- The first j of the turned tasks, of the loads from behind. -/
def turnedK (ts : List WorkM) (k j : Nat) : List WorkM := (List.range j).map (fun i => wk ts ((i + k) % ts.length))
def backK (ls : List ServM) (j : Nat) : List ServM := (List.range j).map (fun i => sv ls (ls.length - 1 - i))
theorem turnedK_all (ts : List WorkM) (k : Nat) : turnedK ts k ts.length = turned ts k := rfl
theorem turnedK_len (ts : List WorkM) (k j : Nat) : (turnedK ts k j).length = j := by simp [turnedK]
theorem turnedK_snoc (ts : List WorkM) (k j : Nat) : turnedK ts k (j + 1) = turnedK ts k j ++ [wk ts ((j + k) % ts.length)] := by simp [turnedK, List.range_succ]
theorem backK_len (ls : List ServM) (j : Nat) : (backK ls j).length = j := by simp [backK]
theorem backK_snoc (ls : List ServM) (j : Nat) : backK ls (j + 1) = backK ls j ++ [sv ls (ls.length - 1 - j)] := by simp [backK, List.range_succ]
theorem backK_all (ls : List ServM) : backK ls ls.length = ls.reverse := by
  apply List.ext_getElem
  · simp [backK]
  · intro i h1 h2
    simp only [List.length_reverse] at h2
    rw [List.getElem_reverse]
    simp only [backK, List.getElem_map, List.getElem_range]
    exact sv_in (by omega)

set_option maxHeartbeats 4000000 in
set_option maxRecDepth 100000 in
theorem walkV (ao : Option Addr) (n cap : Nat) (ts : List WorkM) (hn : ts.length = n) (bo : Option Addr) (m cap2 : Nat) (ls : List ServM) (hm : ls.length = m) (B : Nat) (hB : B ≤ 255) (w : World) (hT : TasksAt w ao ts) (hL : LoadsAt w bo ls) :
    Calls Try.prog 8 #[.slice ao n cap, .slice bo m cap2, .int .u8 B] w fun e w' => e = .returned (.bool true) ∧ Below w.heap.size w w' := by
  have HT := Lib.hid hT
  have HL := Lib.hid hL
  have HN : Box (ts.length = n) := ⟨hn⟩
  have HM : Box (ls.length = m) := ⟨hm⟩
  have hnn := hn ▸ hT.1
  have hmm := hm ▸ hL.1
  clear hT hL hn hm
  go_enter Try.func8, Try.ntmps8
  go_upto_region 3 with (go_at_call 9; refine (awake_any _).mono ?_; rintro e w1 ⟨rfl, hb1⟩)
  have HB1 := Lib.hid hb1
  clear hb1
  by_cases hs : smallM ts m = true
  · have HS := Lib.hid hs
    have hn40 : n ≤ 40 := HN.out ▸ (smallM_iff.1 hs).2.1
    have hm40 : m ≤ 40 := (smallM_iff.1 hs).2.2
    clear hs
    by_cases hn0 : n = 0
    · have hz : ((n : Int) == 0) = true := by simp [hn0]
      clear hn0
      go_wp2_with (go_at_call 10; with_reducible refine (Small_n ao cap n ts HN.out _ cap2 m _ (HT.out.later HB1.out)).mono ?_; rintro e w2 ⟨rfl, rfl⟩; rw [HS.out])
      go_ret
      exact ⟨rfl, HB1.out⟩
    · have hnz : ((n : Int) == 0) = false := beq_eq_false_iff_ne.2 (by omega)
      have hni : (1 : Int) ≤ n := by omega
      obtain ⟨K, hK⟩ : ∃ K, B % n = K := ⟨_, rfl⟩
      have hKl : K < n := hK ▸ Nat.mod_lt _ (by omega)
      have hrem : (B : Int) % (n : Int) = (K : Int) := by rw [← hK]; simp
      have hBi : (B : Int) ≤ 255 := by omega
      clear hK
      go_wp2_with (go_at_call 10; with_reducible refine (Small_n ao cap n ts HN.out _ cap2 m _ (HT.out.later HB1.out)).mono ?_; rintro e w2 ⟨rfl, rfl⟩; rw [HS.out])
      rw [hrem]
      obtain ⟨i0, hi, hz0, hz1, hz2⟩ := info_parts Try.infoWork
      obtain ⟨i1, hj0, hy0, hy1, hy2⟩ := info_parts Try.infoServ
      go_loopw [9, 10] (fun s i wr => ∃ (j : Nat) (a9 : Option Addr) (c9 : Nat), j ≤ n ∧ i = .int .i64 j ∧ s = .slice a9 j c9 ∧ Mid w1 26 4 a9 j c9 (wcells (turnedK ts K j)) wr) (fun _ i _ => n - (intOf i).toNat)
      case atStart => exact ⟨0, none, 0, Nat.zero_le _, rfl, rfl, ⟨World.ownsRow_nil _ _ _ _, Below.refl _ _⟩⟩
      case round =>
        obtain ⟨j, a9, c9, hj, rfl, rfl, hmid⟩ := hrel
        have HMI := Lib.hid hmid
        have HTW := Lib.hid (HT.out.later (HB1.out.trans (hmid.bel.mono HB1.out.size)))
        clear hmid
        by_cases hlt : j < n
        · obtain ⟨J, hJ⟩ : ∃ J, (j + K) % n = J := ⟨_, rfl⟩
          have hJl : J < n := hJ ▸ Nat.mod_lt _ (by omega)
          have hremJ : ((j : Int) + (K : Int)) % (n : Int) = (J : Int) := by rw [← hJ]; simp
          have hJK : Box (turnedK ts K (j + 1) = turnedK ts K j ++ [wk ts J]) := ⟨by rw [turnedK_snoc, HN.out, hJ]⟩
          clear hJ
          obtain ⟨b, off, rfl, hbl, hc⟩ := HTW.out.2 (by rw [HN.out]; omega)
          obtain ⟨c0, c1, c2, c3⟩ := hc J (by rw [HN.out]; exact hJl)
          clear hc
          go_wp2_with (at_builtin; refine wpList_append_lies _ rfl (.tmp 40) (.tmp 49) 22 rfl w1.heap.size 26 i0 (.agg #[.int .i64 0, .int .u64 0, .int .u64 0, .int .u64 0]) 4 32 Try.underlying22 hi hz0 hz1 hz2 rfl (by decide) (.slice a9 j c9) j (wcells (turnedK ts K j)) rfl (HMI.out.own.alloc _) ⟨wr.heap.size, 0, none⟩ 1 1 [.int .i64 (wk ts J).prio, .int .u64 (wk ts J).cost, .int .u64 (wk ts J).period, .int .u64 (wk ts J).dead] rfl rfl (World.news_of_block (cs := #[.int .i64 (wk ts J).prio, .int .u64 (wk ts J).cost, .int .u64 (wk ts J).period, .int .u64 (wk ts J).dead]) (blk_new _ _)) ?h1 (by omega) ?b1 ?b2 ?b3 _ rfl ?next)
          case h1 => simp [Value.oneCell']
          case b1 => unfold maxLen; omega
          case b2 => omega
          case b3 => exact Nat.le_trans HMI.out.bel.size (by simp)
          case next =>
            intro g c3 w3 ho3 hg3 _ _
            have HE := Lib.hid (HMI.out.fin rfl ((Below.refl _ _).alloc (Nat.le_refl _) _) ho3 hg3)
            clear ho3 hg3
            go_wp2
            go_roundw
            case rel => exact ⟨j + 1, _, _, by omega, by go_num, rfl, by rw [hJK.out, wcells_snoc]; exact HE.out⟩
            case measure => simp [intOf] <;> omega
        · obtain rfl : n = j := by omega
          rename World => V
          have HTU : Box (TasksAt V a9 (turned ts K)) := ⟨TasksAt.of_own (n := n) (by rw [turned_len, HN.out]) (by rw [← turnedK_all, HN.out]; exact HMI.out.own) (by omega)⟩
          have HBR : Box (Below w.heap.size w V) := ⟨HB1.out.trans (HMI.out.bel.mono HB1.out.size)⟩
          have hmi : (m : Int) ≤ 40 := by omega
          clear hlt hj
          go_wp2
          go_loopw [11, 12] (fun s i wr => ∃ (q : Nat) (a11 : Option Addr) (c11 : Nat), q ≤ m ∧ i = .int .i64 ((m : Int) - 1 - q) ∧ s = .slice a11 q c11 ∧ Mid V 28 2 a11 q c11 (lcells (backK ls q)) wr) (fun _ i _ => (intOf i + 1).toNat)
          case atStart => exact ⟨0, none, 0, Nat.zero_le _, by simp, rfl, ⟨World.ownsRow_nil _ _ _ _, Below.refl _ _⟩⟩
          case round =>
            obtain ⟨q, a11, c11, hq, rfl, rfl, hmid⟩ := hrel
            have HM2 := Lib.hid hmid
            have HLW := Lib.hid (HL.out.later (HBR.out.trans (hmid.bel.mono HBR.out.size)))
            clear hmid
            by_cases hlt : q < m
            · obtain ⟨J, hJ⟩ : ∃ J, m - 1 - q = J := ⟨_, rfl⟩
              have hJl : J < m := by omega
              have hJi : (m : Int) - 1 - (q : Int) = (J : Int) := by omega
              have hBK : Box (backK ls (q + 1) = backK ls q ++ [sv ls J]) := ⟨by rw [backK_snoc, HM.out, hJ]⟩
              have hnx : Box ((J : Int) - 1 = (m : Int) - 1 - ((q + 1 : Nat) : Int)) := ⟨by omega⟩
              rw [hJi]
              clear hJ hJi
              obtain ⟨b, off, rfl, hbl, hc⟩ := HLW.out.2 (by rw [HM.out]; omega)
              obtain ⟨d0, d1⟩ := hc J (by rw [HM.out]; exact hJl)
              clear hc
              go_wp2_with (at_builtin; refine wpList_append_lies _ rfl (.tmp 58) (.tmp 63) 23 rfl V.heap.size 28 i1 (.agg #[.int .i64 0, .int .u64 0]) 2 16 Try.underlying23 hj0 hy0 hy1 hy2 rfl (by decide) (.slice a11 q c11) q (lcells (backK ls q)) rfl (HM2.out.own.alloc _) ⟨wr.heap.size, 0, none⟩ 1 1 [.int .i64 (sv ls J).budget, .int .u64 (sv ls J).period] rfl rfl (World.news_of_block (cs := #[.int .i64 (sv ls J).budget, .int .u64 (sv ls J).period]) (blk_new _ _)) ?h1 (by omega) ?b1 ?b2 ?b3 _ rfl ?next)
              case h1 => simp [Value.oneCell']
              case b1 => unfold maxLen; omega
              case b2 => omega
              case b3 => exact Nat.le_trans HM2.out.bel.size (by simp)
              case next =>
                intro g c3 w3 ho3 hg3 _ _
                have HE := Lib.hid (HM2.out.fin rfl ((Below.refl _ _).alloc (Nat.le_refl _) _) ho3 hg3)
                clear ho3 hg3
                go_wp2
                go_roundw
                case rel => exact ⟨q + 1, _, _, by omega, by rw [hnx.out], rfl, by rw [hBK.out, lcells_snoc]; exact HE.out⟩
                case measure => simp [intOf] <;> omega
            · obtain rfl : m = q := by omega
              have HLU : Box (LoadsAt wr a11 ls.reverse) := ⟨LoadsAt.of_owns (n := m) (by rw [List.length_reverse, HM.out]) (by rw [← backK_all, HM.out]; exact HM2.out.own) (by omega)⟩
              have HTU2 := Lib.hid (HTU.out.later HM2.out.bel)
              have HBR2 := Lib.hid (HBR.out.trans (HM2.out.bel.mono HBR.out.size))
              clear hlt hq
              go_wp2
              rename World => U
              go_loopw [13, 14, 15, 16, 17] (fun i _ _ _ _ wr => ∃ j : Nat, j ≤ n ∧ i = .int .i64 j ∧ Below U.heap.size U wr) (fun i _ _ _ _ _ => n - (intOf i).toNat)
              case atStart => exact ⟨0, Nat.zero_le _, rfl, Below.refl _ _⟩
              case round =>
                obtain ⟨j, hj, rfl, hb⟩ := hrel
                have HTU3 := Lib.hid (HTU2.out.later hb)
                have HLU3 := Lib.hid (HLU.out.later hb)
                have HBR3 := Lib.hid (HBR2.out.trans (hb.mono HBR2.out.size))
                have HUU := Lib.hid hb
                clear hb
                have HTL : Box ((turned ts K).length = n) := ⟨by rw [turned_len, HN.out]⟩
                have HLL : Box (ls.reverse.length = m) := ⟨by rw [List.length_reverse, HM.out]⟩
                by_cases hlt : j < n
                · obtain ⟨J, hJ⟩ : ∃ J, (j + K) % n = J := ⟨_, rfl⟩
                  have hJl : J < n := hJ ▸ Nat.mod_lt _ (by omega)
                  have hremJ : ((j : Int) + (K : Int)) % (n : Int) = (J : Int) := by rw [← hJ]; simp
                  obtain ⟨o, ho⟩ : ∃ o, TimeM ts ls (J : Int) = o := ⟨_, rfl⟩
                  have HO := Lib.hid ho
                  have HO2 : Box (TimeM (turned ts K) ls.reverse (j : Int) = o) := ⟨by rw [TimeM_turned (by rw [HN.out]; exact hKl) (by rw [HN.out]; exact hlt), HN.out, hJ]; exact ho⟩
                  clear hJ ho
                  cases o with
                  | none =>
                    go_wp2_with (first
                      | (go_at_call 14; with_reducible refine (Time_y a9 _ n (turned ts K) HTL.out a11 _ m ls.reverse HLL.out _ HTU3.out HLU3.out _ HO2.out).mono ?_; rintro e w5 ⟨rfl, hb5⟩; have HB5 := Lib.hid (HBR3.out.trans (hb5.mono HBR3.out.size)); have HU5 := Lib.hid (HUU.out.trans (hb5.mono HUU.out.size)); clear hb5)
                      | (go_at_call 14; (try rw [hremJ]); with_reducible refine (Time_y ao _ n ts HN.out bo _ m ls HM.out _ (HT.out.later HB5.out) (HL.out.later HB5.out) _ HO.out).mono ?_; rintro e w6 ⟨rfl, hb6⟩; have HB6 := Lib.hid (HB5.out.trans (hb6.mono HB5.out.size)); have HU6 := Lib.hid (HU5.out.trans (hb6.mono HU5.out.size)); clear hb6))
                    go_roundw
                    case rel => exact ⟨j + 1, by omega, by go_num, HU6.out⟩
                    case measure => simp [intOf] <;> omega
                  | some R =>
                    go_wp2_with (first
                      | (go_at_call 14; with_reducible refine (Time_x a9 _ n (turned ts K) HTL.out a11 _ m ls.reverse HLL.out _ HTU3.out HLU3.out _ R HO2.out).mono ?_; rintro e w5 ⟨rfl, hb5⟩; have HB5 := Lib.hid (HBR3.out.trans (hb5.mono HBR3.out.size)); have HU5 := Lib.hid (HUU.out.trans (hb5.mono HUU.out.size)); clear hb5)
                      | (go_at_call 14; (try rw [hremJ]); with_reducible refine (Time_x ao _ n ts HN.out bo _ m ls HM.out _ (HT.out.later HB5.out) (HL.out.later HB5.out) _ R HO.out).mono ?_; rintro e w6 ⟨rfl, hb6⟩; have HB6 := Lib.hid (HB5.out.trans (hb6.mono HB5.out.size)); have HU6 := Lib.hid (HU5.out.trans (hb6.mono HU5.out.size)); clear hb6))
                    go_roundw
                    case rel => exact ⟨j + 1, by omega, by go_num, HU6.out⟩
                    case measure => simp [intOf] <;> omega
                · obtain ⟨v, hv⟩ : ∃ v, allM ts ls = v := ⟨_, rfl⟩
                  have HV := Lib.hid hv
                  have HV2 : Box (allM (turned ts K) ls.reverse = v) := ⟨by rw [allM_turned (by rw [HN.out]; exact hKl)]; exact hv⟩
                  clear hv
                  go_wp2_with (first
                    | (go_at_call 18; with_reducible refine (All_x a9 _ n (turned ts K) HTL.out a11 _ m ls.reverse HLL.out _ HTU3.out HLU3.out v HV2.out).mono ?_; rintro e w5 ⟨rfl, hb5⟩; have HB5 := Lib.hid (HBR3.out.trans (hb5.mono HBR3.out.size)); clear hb5)
                    | (go_at_call 18; with_reducible refine (All_x ao _ n ts HN.out bo _ m ls HM.out _ (HT.out.later HB5.out) (HL.out.later HB5.out) v HV.out).mono ?_; rintro e w6 ⟨rfl, hb6⟩; have HB6 := Lib.hid (HB5.out.trans (hb6.mono HB5.out.size)); clear hb6))
                  go_ret
                  exact ⟨by simp, HB6.out⟩
  · go_wp2_with (go_at_call 10; with_reducible refine (Small_n ao cap n ts HN.out _ cap2 m _ (HT.out.later HB1.out)).mono ?_; rintro e w2 ⟨rfl, rfl⟩; rw [Bool.eq_false_iff.2 hs])
    go_ret
    exact ⟨rfl, HB1.out⟩
theorem walk (a0 : Option Addr) (len0 cap0 : Nat) (z0 : Nat → Nat → Int) (a1 : Option Addr) (len1 cap1 : Nat) (z1 : Nat → Nat → Int) (x : Int) (w : World) (g0 : ArgStructs [.i64, .u64, .u64, .u64] w a0 len0 z0) (g1 : ArgStructs [.i64, .u64] w a1 len1 z1)
    (g2 : (Lit.int .u8 x).wf = true) :
    Calls Try.prog 8 #[.slice a0 len0 cap0, .slice a1 len1 cap1, .int .u8 x] w fun e w' => e = .returned (.bool true) ∧ Below w.heap.size w w' := by
  obtain ⟨ts, hn, hT⟩ := tasks_of_arg g0
  obtain ⟨ls, hm, hL⟩ := loads_of_arg g1
  have hx := u8_wf g2
  obtain ⟨B, rfl⟩ : ∃ B : Nat, x = B := ⟨x.toNat, by omega⟩
  exact walkV a0 len0 cap0 ts hn a1 len1 cap1 ls hm B (by omega) w hT hL


/-! The row's step. -/
theorem own : ownKnob Try.prog.godebug = none := by kernel_rfl
theorem laidOut : laidOutB Try.prog = true := by kernel_rfl

set_option maxRecDepth 100000 in
theorem lifted (os : Os) (started : os.Started) (H : Type) (enc : TypeId × Value → H) :
    ReturnsInHanded {} Try.checked os 8 .any (Rows.rtaSwappedSpec.pre6 enc Try.prog Try.f8 Rows.rtaSwappedRow.domain false) (Rows.rtaSwappedSpec.post enc Try.prog Try.f8 false true false false) := by
  refine returnsInHanded_of_change (C := Try.checked) own started (by kernel_rfl) Try.func8
    (ChangeSpec.witness6 (enc := enc) (C := Try.checked) false ⟨#[], #[.slice none 0 0, .slice none 0 0, .int .u8 0], []⟩ 8 (by kernel_rfl) (by kernel_rfl) (by kernel_rfl) (by kernel_rfl)) ?_
  intro W base args ds gs before hval0 hW hcnd _
  have hval : ∀ (j : Nat) t v, Try.f8.params[j]? = some t → args[j]? = some v → Value.okWide Try.prog W .any base t v := hval0
  have hW' := hW
  obtain ⟨p, q, hA0, hV, rfl, hfz, hnd⟩ := hW
  have hA : DataW.TrodAll enc Try.prog W 0 (fun _ => true) true Try.f8.params.toList args.toList ds p := hA0
  rw [Try.params8] at hA hval
  obtain ⟨v0, vs0, d0, ds0, p0, q0, hargs, rfl, rfl, h0, r0⟩ := trodAll_cons hA
  obtain ⟨v1, vs1, d1, ds1, p1, q1, rfl, rfl, rfl, h1, r1⟩ := trodAll_cons r0
  obtain ⟨v2, vs2, d2, ds2, p2, q2, rfl, rfl, rfl, h2, r2⟩ := trodAll_cons r1
  obtain ⟨rfl, rfl, rfl⟩ := trodAll_nil r2
  obtain rfl : args = #[v0, v1, v2] := by cases args; simp_all
  obtain ⟨rfl, rfl⟩ := trodVars_none hV
  obtain ⟨a0, len0, cap0, rfl⟩ := okWide_slice Try.underlying22 (hval 0 22 v0 rfl rfl)
  have k0 := h0
  have lt0 : ∀ x ∈ p0, x.block < W.heap.size := by obtain ⟨m, hm⟩ := k0; exact DataW.trod_lt m _ _ _ hm
  obtain ⟨z0, w0⟩ := open_structs (ks := [.i64, .u64, .u64, .u64]) Try.underlying22 Try.underlying26 (by kernel_rfl) (by kernel_rfl) (by kernel_rfl) (by decide) h0
  obtain ⟨a1, len1, cap1, rfl⟩ := okWide_slice Try.underlying23 (hval 1 23 v1 rfl rfl)
  have k1 := h1
  have lt1 : ∀ x ∈ p1, x.block < W.heap.size := by obtain ⟨m, hm⟩ := k1; exact DataW.trod_lt m _ _ _ hm
  obtain ⟨z1, w1⟩ := open_structs (ks := [.i64, .u64]) Try.underlying23 Try.underlying28 (by kernel_rfl) (by kernel_rfl) (by kernel_rfl) (by decide) h1
  obtain ⟨x2, rfl, rfl, rfl, w2⟩ := open_int Try.underlying5 (hval 2 5 v2 rfl rfl) h2
  clear hA0 hval0
  refine (walk a0 len0 cap0 z0 a1 len1 cap1 z1 x2 W w0 w1 w2).mono fun e W' ⟨he, bel⟩ => ?_
  subst he
  exact ⟨_, rfl, _, _, _, [], _, [], hW', trodAll_mk1 (shut_bool Try.underlying4 _), (trodAll_cons_mk (Below.trod laidOut (by kernel_rfl) (of_decide_eq_true (by kernel_rfl)) k0 bel lt0) (trodAll_cons_mk (Below.trod laidOut (by kernel_rfl) (of_decide_eq_true (by kernel_rfl)) k1 bel lt1) (trodAll_cons_mk (shut_int Try.underlying5 w2) trodAll_mk0))), rfl, bel.frame _, fun h => by cases h⟩

theorem over : Rows.rtaSwappedRow.holds Try.pinned (OpenSpec.ofChange Rows.rtaSwappedSpec) :=
  OpenClaim.holds_of_wide 8 Try.f8 rfl rfl rfl rfl rfl rfl rfl ⟨rfl, rfl, rfl, rfl, rfl⟩ rfl rfl rfl rfl rfl (by kernel_rfl) Try.func8 (by kernel_rfl)
    (of_decide_eq_true (by kernel_rfl)) (by unfold Func.isWrapper; first | (rw [if_pos (by decide +kernel)]; kernel_rfl) | (rw [if_neg (by decide +kernel)]; exact ⟨rfl, rfl⟩))
    (fun os started H enc _ => lifted os started H enc)

/-- The statement. -/
theorem proved : Rows.RtaSwappedSaid := over
#print axioms proved

end Go.Proofs.Ytibplnbldnhbhaa.rtaSwapped
