/-
  LifeLate: an answer that comes when a request has come out, or a second one, is nothing: no outcome comes of it. No condition but the statement's.
-/
import Derived.Test.YtbodnmcaipakcaaLiM
import Derived.Test.YtbodnmcaipakcaaArgsS
import Derived.Test.YtbodnmcaipakcaaRows
namespace Go.Proofs.Ytbodnmcaipakcaa.lifeLate
open Go.ChangeShapes Go.WideShapes Go.ChangeAt Go.RowKit Go.Proofs.Ytbodnmcaipakcaa

/-- Who is open as a list of numbers. -/
def opn (d : Int → Option Nat) : List Nat := (List.range 65536).filter (fun i : Nat => (d (i : Int)).isSome)
theorem opn_nodup (d : Int → Option Nat) : (opn d).Nodup := List.nodup_range.filter _
theorem opn_mem {d : Int → Option Nat} {k : Nat} : k ∈ opn d ↔ k < 65536 ∧ (d (k : Int)).isSome = true := by
  unfold opn; rw [List.mem_filter, List.mem_range]
theorem cnt_opn (d : Int → Option Nat) : cntD d = (opn d).length := rfl
theorem cnt_add {d : Int → Option Nat} {k : Nat} (hk : k ≤ 65535) (h : d k = none) (a : Nat) : cntD (at1 d k (some a)) = cntD d + 1 := by
  rw [cnt_opn, cnt_opn]
  have hn : (k :: opn d).Nodup := List.nodup_cons.2 ⟨fun hm => (by have := (opn_mem.1 hm).2; rw [h] at this; cases this), opn_nodup d⟩
  have := len_eq_of_mem (opn_nodup (at1 d k (some a))) hn (fun x => by
    rw [opn_mem, List.mem_cons, opn_mem]
    by_cases e : x = k
    · subst e
      rw [at1_same]
      simp; omega
    · rw [at1_ne _ _ (by omega)]
      simp [e])
  simpa using this
theorem cnt_del {d : Int → Option Nat} {k : Nat} (hk : k ≤ 65535) (h : (d k).isSome = true) : cntD (at1 d k none) + 1 = cntD d := by
  obtain ⟨a, ha⟩ := Option.isSome_iff_exists.1 h
  rw [← cnt_add hk (at1_same d k none) a]
  congr 1
  funext x
  by_cases e : x = k
  · subst e; rw [at1_same, ha]
  · rw [at1_ne _ _ e, at1_ne _ _ e]
/-- Who is open is one of these, till then. -/
def OkD (c n : Nat) (z : List Int) (d : Int → Option Nat) : Prop := ∀ x a, d x = some a → a = c + 10 ∧ ∃ k, k < n ∧ zv z k = x
theorem OkD.cnt {c n : Nat} {z : List Int} {d : Int → Option Nat} (h : OkD c n z d) : cntD d ≤ n := by
  have := cntD_le (d := d) ((List.range n).map (zv z)) (fun x a hx => by
    obtain ⟨_, k, hk, e⟩ := h x a hx
    exact List.mem_map.2 ⟨k, List.mem_range.2 hk, e⟩)
  simpa using this
theorem OkD.add {c n i : Nat} {z : List Int} {d : Int → Option Nat} (h : OkD c n z d) (hi : i < n) : OkD c n z (at1 d (zv z i) (some (c + 10))) := by
  intro x a hx
  by_cases e : x = zv z i
  · subst e; rw [at1_same] at hx; injection hx with hx; exact ⟨hx.symm, i, hi, rfl⟩
  · rw [at1_ne _ _ e] at hx; exact h x a hx
theorem OkD.del {c n : Nat} {z : List Int} {d : Int → Option Nat} (h : OkD c n z d) (y : Int) : OkD c n z (at1 d y none) := by
  intro x a hx
  by_cases e : x = y
  · subst e; rw [at1_same] at hx; cases hx
  · rw [at1_ne _ _ e] at hx; exact h x a hx
theorem at1_none {d : Int → Option Nat} {y : Int} (h : d y = none) : at1 d y none = d := by
  funext x
  by_cases e : x = y
  · subst e; rw [at1_same, h]
  · rw [at1_ne _ _ e]
theorem ans_some {d : Int → Option Nat} {id st : Int} (fs : List FateM) (bad : Bool) (h1 : 0 ≤ st) (h2 : st ≤ 255) (h : (d id).isSome = true) : ansC d id st = 0 ∧ ansD d id st = at1 d id none ∧ ∃ f, ansF d fs id st bad = fs ++ [f] := by
  refine ⟨?_, ?_, ?_⟩
  · unfold ansC outD; rw [if_neg (by omega), h, if_pos rfl]
  · unfold ansD; rw [if_neg (by omega)]
  · unfold ansF fsO
    rw [if_neg (by omega)]
    cases bad with
    | true => exact ⟨⟨id, 2, 2⟩, by simp [h]⟩
    | false => exact ⟨⟨id, 1, st⟩, by simp [h]⟩
theorem ans_none {d : Int → Option Nat} {id st : Int} (fs : List FateM) (bad : Bool) (h1 : 0 ≤ st) (h2 : st ≤ 255) (h : d id = none) : ansC d id st = 6 ∧ ansD d id st = d ∧ ansF d fs id st bad = fs := by
  refine ⟨?_, ?_, ?_⟩
  · unfold ansC outD; rw [if_neg (by omega), h]; simp
  · unfold ansD; rw [if_neg (by omega)]; exact at1_none h
  · unfold ansF fsO
    rw [if_neg (by omega)]
    cases bad <;> simp [h]
theorem all_none {c n : Nat} {z : List Int} {d : Int → Option Nat} (h : OkD c n z d) (h0 : ∀ k, k < n → d (zv z k) = none) : d = fun _ => none := by
  funext x
  cases hx : d x with
  | none => rfl
  | some a =>
    obtain ⟨_, k, hk, e⟩ := h x a hx
    rw [← e, h0 k hk] at hx; cases hx
theorem cnt_none : cntD (fun _ => none) = 0 := cntA0
/-- Going on: who stays, and how many came out. -/
theorem go_late {c n t : Nat} {z : List Int} {d : Int → Option Nat} {l : List Int} (h : OkD c n z d) (hz : ∀ k, k < n → 0 ≤ zv z k ∧ zv z k ≤ 65535) (hl : LateL d (t + c) l) : OkD c n z (lateD d (t + c)) ∧ cntD (lateD d (t + c)) + l.length = cntD d ∧ (10 ≤ t → l.length = cntD d) ∧ (t < 10 → l.length = 0) := by
  by_cases ht : 10 ≤ t
  · have e : lateD d (t + c) = fun _ => none := by
      funext x
      refine Option.ext fun a => ?_
      rw [lateD_some]
      constructor
      · rintro ⟨h1, h2⟩; have := (h x a h1).1; omega
      · intro h; cases h
    have hll : l.length = cntD d := by
      have e2 : ((opn d).map (fun k : Nat => (k : Int))).length = (opn d).length := by simp
      rw [cnt_opn, ← e2]
      refine len_eq_of_mem (late_nodup hl) ?_ fun x => ?_
      · rw [List.nodup_iff_pairwise_ne, List.pairwise_map]
        exact (List.nodup_iff_pairwise_ne.1 (opn_nodup d)).imp (fun h => by omega)
      · rw [hl.2, List.mem_map]
        constructor
        · rintro ⟨a, h1, h2⟩
          obtain ⟨_, k, hk, e⟩ := h x a h1
          have := hz k hk
          have ex : ((x.toNat : Nat) : Int) = x := by omega
          exact ⟨x.toNat, opn_mem.2 ⟨by omega, by rw [ex, h1]; rfl⟩, ex⟩
        · rintro ⟨k, hk, rfl⟩
          obtain ⟨a, ha⟩ := Option.isSome_iff_exists.1 (opn_mem.1 hk).2
          exact ⟨a, ha, by have := (h _ a ha).1; omega⟩
    rw [e, cnt_none, hll]
    exact ⟨fun x a hx => (by cases hx), by omega, fun _ => rfl, fun h => by omega⟩
  · have e : lateD d (t + c) = d := by
      funext x
      refine Option.ext fun a => ?_
      rw [lateD_some]
      exact ⟨fun h => h.1, fun h1 => ⟨h1, by have := (h x a h1).1; omega⟩⟩
    have hnil : l = [] := List.eq_nil_iff_forall_not_mem.2 fun x hx => by
      obtain ⟨a, h1, h2⟩ := (hl.2 x).1 hx
      have := (h x a h1).1
      omega
    subst hnil
    rw [e]
    exact ⟨h, by simp, fun h => by omega, fun _ => by simp⟩
theorem hasV_some {d : Int → Option Nat} {id : Int} {a : Nat} (h : d id = some a) : hasV d id = .tuple #[.int .u64 a, .bool true] := by unfold hasV; rw [h]
theorem hasV_none {d : Int → Option Nat} {id : Int} (h : d id = none) : hasV d id = .tuple #[.int .u64 0, .bool false] := by unfold hasV; rw [h]
theorem open_two {c : Nat} {d : Int → Option Nat} {id : Int} {dead : Nat} (h1 : 0 ≤ id) (h2 : id ≤ 65535) (h3 : dead < 4611686018427387904) (h4 : (d id).isSome = true) : openD c 0 d id dead = 7 := by
  unfold openD
  rw [if_neg (by omega), if_neg (by omega), if_pos h4]

set_option maxHeartbeats 16000000 in
set_option maxRecDepth 100000 in
theorem walkN (cs : Nat) (a0 : Option Addr) (n cap0 : Nat) (z : List Int) (wh : Nat) (w : World) (hcs : cs ≤ 255) (g0 : ArgInts .u16 w a0 n z) (hwh : wh ≤ 255) :
    Calls Try.prog 6 #[.int .u8 cs, .slice a0 n cap0, .int .u8 wh] w fun e w' => e = .returned (.bool true) ∧ Below w.heap.size w w' := by
  have hn63 := g0.2.1
  have HU : Box (∀ i, i < n → 0 ≤ zv z i ∧ zv z i ≤ 65535) := ⟨fun i hi => by
    have h1 := g0.2.2.1 (zv z i) (by unfold zv; rw [getD_in (by rw [g0.1]; exact hi)]; exact List.getElem_mem _)
    simp [Lit.wf, IntKind.min, IntKind.max, IntKind.signed, IntKind.bits] at h1
    omega⟩
  have HA := Box.mk g0
  clear g0
  obtain ⟨t, ht⟩ : ∃ t : Nat, (wh : Int) % 20 = t := ⟨wh % 20, by omega⟩
  have ht20 : t < 20 := by omega
  obtain ⟨c, hc⟩ : ∃ c, 1 + cs = c := ⟨_, rfl⟩
  have hci : (1 : Int) + (cs : Int) = c := by omega
  have hc2 : 1 ≤ c ∧ c ≤ 256 := by omega
  have HNW := Box.mk (fun w1 (hb : Below w.heap.size w w1) => ls_new c w1 (by omega) w hb [] (fun q hq => by cases hq))
  clear hc
  go_enter Try.func6, Try.ntmps6
  go_upto_region 3 with (go_at_call 9; refine (awake19_any _).mono ?_; rintro e w1 ⟨rfl, hb1⟩; have HB1 := Box.mk hb1; clear hb1)
  by_cases hn : 60 < n
  · have hni : (60 : Int) < n := by omega
    go_wp2_with (go_at_call 10; refine (HNW.out _ HB1.out).mono ?_; rintro e w2 ⟨p, rfl, hs⟩; have HS := Box.mk hs; clear hs)
    go_ret
    exact ⟨rfl, HS.out.below⟩
  · have hni : ¬ (60 : Int) < n := by omega
    go_upto_region 7 with (go_at_call 10; refine (HNW.out _ HB1.out).mono ?_; rintro e w2 ⟨p, rfl, hs⟩; have HS := Box.mk hs; clear hs)
    clear HNW HB1 hci
    have HOK : Box (OkD c n z (fun _ => none)) := ⟨fun x a h => by cases h⟩
    go_upto_block 0 with fail
    go_wp2
    go_loopw [10, 11] (fun s10 s11 wr => ∃ (i m : Nat) (d : Int → Option Nat), i ≤ n ∧ m ≤ 60 ∧ s11 = .int .i64 i ∧ s10 = .int .i64 m ∧ Box (OkD c n z d) ∧ Box (cntD d = m) ∧ Box (LS w wr p c 0 d [] [])) (fun _ s11 _ => n - (intOf s11).toNat)
    case atStart => exact ⟨0, 0, _, by omega, by omega, rfl, rfl, HOK, ⟨cnt_none⟩, HS⟩
    case round =>
      clear HS HOK
      obtain ⟨i, m, d, hin, hm, rfl, rfl, HOK, HC, HS⟩ := hrel
      by_cases hlt : i < n
      · obtain ⟨b, off, rfl, hbw, hcell⟩ := HA.out.get (by omega)
        have cx := (HS.out.below.cell (p := ⟨b, off + i, none⟩) hbw).trans (hcell i hlt)
        have hu := HU.out i hlt
        have HAD := Box.mk (HOK.out.add hlt)
        have hil : (i : Int) < n := by omega
        have hdd : ((c + 10 : Nat) : Int) = (c : Int) + 10 := by omega
        clear hcell
        generalize zv z i = y at cx hu HAD
        obtain ⟨y, rfl⟩ : ∃ k : Nat, y = k := ⟨y.toNat, by omega⟩
        cases hd : d y with
        | some a =>
          have HR := ls_open w _ p c 0 d [] [] HS.out y (c + 10) (kwf_of (by omega) (by omega)) (by omega) 7 (open_two (by omega) (by omega) (by omega) (by rw [hd]; rfl))
          rw [if_neg (by omega), hdd] at HR
          have HR := Box.mk HR
          clear hd hdd
          go_wp2_with (go_at_call 11; (with_reducible refine HR.out.mono ?_); rintro e w3 ⟨rfl, hs⟩; have HS := Box.mk hs; clear hs)
          go_roundw
          case rel => exact ⟨i + 1, m, d, by omega, by omega, by go_num, rfl, HOK, HC, HS⟩
          case measure => simp [intOf] <;> omega
        | none =>
          have hcn := HOK.out.cnt
          have HR := ls_open w _ p c 0 d [] [] HS.out y (c + 10) (kwf_of (by omega) (by omega)) (by omega) 0 (openD_ok (by omega) (by omega) (by omega) hd (by omega) (by omega))
          rw [if_pos rfl, hdd] at HR
          have HR := Box.mk HR
          have hC2 := cnt_add (d := d) (k := y) (by omega) hd (c + 10)
          rw [HC.out] at hC2
          have hC3 := HAD.out.cnt
          have HC2 := Box.mk hC2
          have hm2 : m + 1 ≤ 60 := by omega
          clear hd hdd hcn hC2 hC3
          go_wp2_with (go_at_call 11; (with_reducible refine HR.out.mono ?_); rintro e w3 ⟨rfl, hs⟩; have HS := Box.mk hs; clear hs)
          go_roundw
          case rel => exact ⟨i + 1, m + 1, _, by omega, hm2, by go_num, by go_num, HAD, HC2, HS⟩
          case measure => simp [intOf] <;> omega
      · have e : n = i := by omega
        subst e
        have hil : ¬ (n : Int) < n := by omega
        go_upto_block 2 with fail
        go_wp2
        go_loopw [12, 13] (fun s12 s13 wr => ∃ (j k : Nat) (d : Int → Option Nat) (fs : List FateM), j ≤ n ∧ k ≤ 60 ∧ s13 = .int .i64 j ∧ s12 = .int .i64 k ∧ Box (OkD c n z d) ∧ Box (cntD d + k = m ∧ fs.length = k) ∧ Box (LS w wr p c 0 d fs [])) (fun _ s13 _ => n - (intOf s13).toNat)
        case atStart => exact ⟨0, 0, d, [], by omega, by omega, rfl, rfl, HOK, ⟨HC.out, rfl⟩, HS⟩
        case round =>
          clear HS HOK HC
          obtain ⟨j, k, d, fs, hjn, hk, rfl, rfl, HOK, HC, HS⟩ := hrel
          by_cases hlt : j < n
          · obtain ⟨b, off, rfl, hbw, hcell⟩ := HA.out.get (by omega)
            have cx := (HS.out.below.cell (p := ⟨b, off + j, none⟩) hbw).trans (hcell j hlt)
            have hu := HU.out j hlt
            have hjl : (j : Int) < n := by omega
            obtain ⟨r, hr⟩ : ∃ r, (j : Int) % 2 = r := ⟨_, rfl⟩
            have htr : (j : Int).tmod 2 = r := by rw [Int.tmod_eq_emod_of_nonneg (by omega)]; exact hr
            clear hcell hr
            generalize zv z j = y at cx hu
            obtain ⟨y, rfl⟩ : ∃ k : Nat, y = k := ⟨y.toNat, by omega⟩
            by_cases hr0 : r = 0
            · have hz : (r == 0) = true := by simp [hr0]
              have HR := ls_answer w _ p c 0 d fs [] HS.out y 1 false (kwf_of (by omega) (by omega)) (by have := HC.out; omega)
              cases hd : d y with
              | some a =>
                obtain ⟨f1, f2, f, f3⟩ := ans_some (d := d) (id := y) (st := 1) fs false (by omega) (by omega) (by rw [hd]; rfl)
                have hcd := cnt_del (d := d) (k := y) (by omega) (by rw [hd]; rfl)
                have HC2 : Box (cntD (at1 d y none) + (k + 1) = m ∧ (fs ++ [f]).length = k + 1) := ⟨by have := HC.out; simp; omega⟩
                have hk2 : k + 1 ≤ 60 := by have := HC.out; omega
                have HOK2 := Box.mk (HOK.out.del y)
                rw [f1, f2, f3] at HR
                have HR := Box.mk HR
                clear f1 f2 f3 hcd hd
                go_wp2_with (go_at_call 12; refine HR.out.mono ?_; rintro e w3 ⟨rfl, hs⟩; have HS := Box.mk hs; clear hs)
                go_roundw
                case rel => exact ⟨j + 1, k + 1, _, _, by omega, hk2, by go_num, by go_num, HOK2, HC2, HS⟩
                case measure => simp [intOf] <;> omega
              | none =>
                obtain ⟨f1, f2, f3⟩ := ans_none (d := d) (id := y) (st := 1) fs false (by omega) (by omega) hd
                rw [f1, f2, f3] at HR
                have HR := Box.mk HR
                clear f1 f2 f3 hd
                go_wp2_with (go_at_call 12; refine HR.out.mono ?_; rintro e w3 ⟨rfl, hs⟩; have HS := Box.mk hs; clear hs)
                go_roundw
                case rel => exact ⟨j + 1, k, _, _, by omega, hk, by go_num, rfl, HOK, HC, HS⟩
                case measure => simp [intOf] <;> omega
            · have hz : (r == 0) = false := beq_eq_false_iff_ne.2 hr0
              go_wp2
              go_roundw
              case rel => exact ⟨j + 1, k, d, fs, by omega, hk, by go_num, rfl, HOK, HC, HS⟩
              case measure => simp [intOf] <;> omega
          · have e : n = j := by omega
            subst e
            have hjl : ¬ (n : Int) < n := by omega
            have HR := Box.mk (ls_go w _ p c 0 d fs [] HS.out t (by omega) (by omega) (by have := HC.out; omega))
            have HLT := Box.mk (fun l (h : LateL d (t + c) l) => go_late HOK.out HU.out h)
            go_upto_region 21 with (go_at_call 13; (with_reducible refine HR.out.mono ?_); rintro e w3 ⟨fo, nn, cc, l, Y, rfl, hl, hnn, hs, -, -, -⟩; have HL := Box.mk (HLT.out l hl); have HNN := Box.mk hnn; have HS := Box.mk (hs.sub (Y := []) (fun q hq => by cases hq)); clear hs hl hnn)
            clear HR HLT
            have hnn : nn = k + l.length := by
              rw [HNN.out, List.length_append, HC.out.2]
              simp [timeF]
            have HD : Box (cntD (lateD d (t + c)) + nn = m) := ⟨by have := HC.out.1; have := HL.out.2.1; omega⟩
            have hw : (10 ≤ t ∧ nn = m) ∨ (t < 10 ∧ nn = k) := by
              have h1 := HC.out.1
              obtain ⟨-, h2, h3, h4⟩ := HL.out
              by_cases h : 10 ≤ t
              · have := h3 h; omega
              · have := h4 (by omega); omega
            have HOK2 := Box.mk HL.out.1
            have hnm : nn ≤ 60 := by have := HD.out; omega
            clear hnn HL HNN HOK HC
            generalize lateD d (t + c) = d2 at HS HD HOK2
            rcases hw with ⟨h1, h2⟩ | ⟨h1, h2⟩
            · have h10 : (10 : Int) ≤ t := by omega
              obtain rfl : m = nn := h2.symm
              go_upto_block 4 with fail
              go_wp2
              go_loopw [18, 19, 20] (fun s18 _ _ wr => ∃ (i : Nat) (d : Int → Option Nat) (fs : List FateM), i ≤ n ∧ s18 = .int .i64 i ∧ Box (OkD c n z d ∧ cntD d + fs.length + m = m ∧ ∀ k', k' < i → d (zv z k') = none) ∧ Box (LS w wr p c t d fs [])) (fun s18 _ _ _ => n - (intOf s18).toNat)
              case atStart => exact ⟨0, d2, [], by omega, rfl, ⟨HOK2.out, by simpa using HD.out, fun k hk => absurd hk (by omega)⟩, HS⟩
              case round =>
                clear HS HOK2 HD
                obtain ⟨i, d, fs, hin3, rfl, HO, HS⟩ := hrel
                have hfl : fs.length ≤ 60 := by have := HO.out.2.1; omega
                by_cases hlt3 : i < n
                · obtain ⟨b, off, rfl, hbw, hcell⟩ := HA.out.get (by omega)
                  have cx := (HS.out.below.cell (p := ⟨b, off + i, none⟩) hbw).trans (hcell i hlt3)
                  have hu := HU.out i hlt3
                  have hil3 : (i : Int) < n := by omega
                  obtain ⟨y, hy⟩ : ∃ k : Nat, zv z i = k := ⟨(zv z i).toNat, by omega⟩
                  have hce := hcell i hlt3
                  rw [hy] at cx hu hce
                  have HCE := Box.mk hce
                  have HY := Box.mk hy
                  clear hy hce hcell
                  have HRH := ls_has w _ p c t d fs [] HS.out y (kwf_of (by omega) (by omega))
                  cases hd : d y with
                  | some a =>
                    rw [hasV_some hd] at HRH
                    have HRH := Box.mk HRH
                    obtain ⟨f1, f2, f, f3⟩ := ans_some (d := d) (id := y) (st := 2) fs true (by omega) (by omega) (by rw [hd]; rfl)
                    have HR1 : Box (∀ w', LS w w' p c t d fs [] → Calls Try.prog 12 #[.pointer (some ⟨p, 0, none⟩), .int .i64 y, .int .i64 2, .bool true] w' fun e w'' => e = .returned (.int .i64 0) ∧ LS w w'' p c t (at1 d y none) (fs ++ [f]) []) := ⟨fun w' h => by
                      have := ls_answer w w' p c t d fs [] h y 2 true (kwf_of (by omega) (by omega)) (by omega)
                      rw [f1, f2, f3] at this
                      exact this⟩
                    obtain ⟨g1, g2, g3⟩ := ans_none (d := at1 d y none) (id := y) (st := 2) (fs ++ [f]) true (by omega) (by omega) (at1_same _ _ _)
                    have HR2 : Box (∀ w', LS w w' p c t (at1 d y none) (fs ++ [f]) [] → Calls Try.prog 12 #[.pointer (some ⟨p, 0, none⟩), .int .i64 y, .int .i64 2, .bool true] w' fun e w'' => e = .returned (.int .i64 6) ∧ LS w w'' p c t (at1 d y none) (fs ++ [f]) []) := ⟨fun w' h => by
                      have := ls_answer w w' p c t (at1 d y none) (fs ++ [f]) [] h y 2 true (kwf_of (by omega) (by omega)) (by simp; omega)
                      rw [g1, g2, g3] at this
                      exact this⟩
                    have hcd := cnt_del (d := d) (k := y) (by omega) (by rw [hd]; rfl)
                    have HO2 : Box (OkD c n z (at1 d y none) ∧ cntD (at1 d y none) + (fs ++ [f]).length + m = m ∧ ∀ k', k' < i + 1 → at1 d y none (zv z k') = none) := ⟨HO.out.1.del y, by have := HO.out.2.1; simp; omega, fun k hk => by
                      by_cases e : zv z k = y
                      · rw [e, at1_same]
                      · rw [at1_ne _ _ e]
                        refine HO.out.2.2 k ?_
                        rcases Nat.lt_or_ge k i with h | h
                        · exact h
                        · exact absurd (by rw [show k = i from by omega]; exact HY.out) e⟩
                    clear f1 f2 f3 g1 g2 g3 hcd hd HO
                    go_upto_region 30 with (go_at_call 16; (with_reducible refine HRH.out.mono ?_); rintro e w5 ⟨rfl, hs⟩; have HS := Box.mk hs; clear hs; have cx := (HS.out.below.cell (p := ⟨b, off + i, none⟩) hbw).trans HCE.out)
                    clear HRH
                    go_wp2_with (first
                      | (go_at_call 12; refine (HR1.out _ HS.out).mono ?_; rintro e w6 ⟨rfl, hs⟩; have HS := Box.mk hs; clear hs; have cx := (HS.out.below.cell (p := ⟨b, off + i, none⟩) hbw).trans HCE.out)
                      | (go_at_call 12; refine (HR2.out _ HS.out).mono ?_; rintro e w6 ⟨rfl, hs⟩; have HS := Box.mk hs; clear hs; have cx := (HS.out.below.cell (p := ⟨b, off + i, none⟩) hbw).trans HCE.out))
                    go_roundw
                    case rel => exact ⟨i + 1, _, _, by omega, by go_num, HO2, HS⟩
                    case measure => simp [intOf] <;> omega
                  | none =>
                    rw [hasV_none hd] at HRH
                    have HRH := Box.mk HRH
                    obtain ⟨g1, g2, g3⟩ := ans_none (d := d) (id := y) (st := 2) fs true (by omega) (by omega) hd
                    have HR2 : Box (∀ w', LS w w' p c t d fs [] → Calls Try.prog 12 #[.pointer (some ⟨p, 0, none⟩), .int .i64 y, .int .i64 2, .bool true] w' fun e w'' => e = .returned (.int .i64 6) ∧ LS w w'' p c t d fs []) := ⟨fun w' h => by
                      have := ls_answer w w' p c t d fs [] h y 2 true (kwf_of (by omega) (by omega)) (by omega)
                      rw [g1, g2, g3] at this
                      exact this⟩
                    have HO2 : Box (OkD c n z d ∧ cntD d + fs.length + m = m ∧ ∀ k', k' < i + 1 → d (zv z k') = none) := ⟨HO.out.1, HO.out.2.1, fun k hk => by
                      rcases Nat.lt_or_ge k i with h | h
                      · exact HO.out.2.2 k h
                      · rw [show k = i from by omega, HY.out]; exact hd⟩
                    clear g1 g2 g3 hd HO
                    go_upto_region 30 with (go_at_call 16; (with_reducible refine HRH.out.mono ?_); rintro e w5 ⟨rfl, hs⟩; have HS := Box.mk hs; clear hs; have cx := (HS.out.below.cell (p := ⟨b, off + i, none⟩) hbw).trans HCE.out)
                    clear HRH
                    go_wp2_with (go_at_call 12; refine (HR2.out _ HS.out).mono ?_; rintro e w6 ⟨rfl, hs⟩; have HS := Box.mk hs; clear hs; have cx := (HS.out.below.cell (p := ⟨b, off + i, none⟩) hbw).trans HCE.out)
                    go_roundw
                    case rel => exact ⟨i + 1, _, _, by omega, by go_num, HO2, HS⟩
                    case measure => simp [intOf] <;> omega
                · have e : i = n := by omega
                  subst e
                  have hil3 : ¬ (i : Int) < i := by omega
                  have hdn := all_none HO.out.1 HO.out.2.2
                  subst hdn
                  have hsum : fs.length + m = m := by have := HO.out.2.1; rw [cnt_none] at this; omega
                  have HSUM := Box.mk hsum
                  have HE : Box (∀ l n3, LateL (fun _ => none) (t + 1000 + c) l → n3 = (fs ++ timeF l).length → n3 = fs.length) := ⟨fun l n3 h e => by
                    have hnil : l = [] := List.eq_nil_iff_forall_not_mem.2 fun x hx => by
                      obtain ⟨a, h1, h2⟩ := (h.2 x).1 hx
                      cases h1
                    subst hnil
                    rw [e]; simp [timeF]⟩
                  have HR := ls_go w _ p c t _ fs [] HS.out (t + 1000) (by omega) (by omega) (by omega)
                  rw [show ((t + 1000 : Nat) : Int) = (t : Int) + 1000 from by omega] at HR
                  have HR := Box.mk HR
                  clear hsum
                  go_upto_region 33 with (go_at_call 13; (with_reducible refine HR.out.mono ?_); rintro e w5 ⟨fo3, n3, c3, l3, Y3, rfl, hl3, hn3, hs, -, -, -⟩; have HN3 := Box.mk (HE.out l3 n3 hl3 hn3); have HS : Box (LS w w5 p c (t + 1000) (fun _ => none) [] []) := Box.mk (hs.sub (Y := []) (fun q hq => by cases hq)); clear hs hl3 hn3)
                  clear HR HE
                  have hn0 : n3 = 0 := by have := HN3.out; have := HSUM.out; omega
                  subst hn0
                  have HCT := ls_count w _ p c (t + 1000) _ [] [] HS.out
                  rw [cnt_none] at HCT
                  have HCT := Box.mk HCT
                  go_wp2_with (go_at_call 15; refine HCT.out.mono ?_; rintro e w6 ⟨rfl, rfl⟩)
                  go_ret
                  exact ⟨rfl, HS.out.below⟩
            · have h10 : ¬ (10 : Int) ≤ t := by omega
              obtain rfl : k = nn := h2.symm
              go_upto_block 4 with fail
              go_wp2
              go_loopw [18, 19, 20] (fun s18 _ _ wr => ∃ (i : Nat) (d : Int → Option Nat) (fs : List FateM), i ≤ n ∧ s18 = .int .i64 i ∧ Box (OkD c n z d ∧ cntD d + fs.length + k = m ∧ ∀ k', k' < i → d (zv z k') = none) ∧ Box (LS w wr p c t d fs [])) (fun s18 _ _ _ => n - (intOf s18).toNat)
              case atStart => exact ⟨0, d2, [], by omega, rfl, ⟨HOK2.out, by simpa using HD.out, fun k hk => absurd hk (by omega)⟩, HS⟩
              case round =>
                clear HS HOK2 HD
                obtain ⟨i, d, fs, hin3, rfl, HO, HS⟩ := hrel
                have hfl : fs.length ≤ 60 := by have := HO.out.2.1; omega
                by_cases hlt3 : i < n
                · obtain ⟨b, off, rfl, hbw, hcell⟩ := HA.out.get (by omega)
                  have cx := (HS.out.below.cell (p := ⟨b, off + i, none⟩) hbw).trans (hcell i hlt3)
                  have hu := HU.out i hlt3
                  have hil3 : (i : Int) < n := by omega
                  obtain ⟨y, hy⟩ : ∃ k : Nat, zv z i = k := ⟨(zv z i).toNat, by omega⟩
                  have hce := hcell i hlt3
                  rw [hy] at cx hu hce
                  have HCE := Box.mk hce
                  have HY := Box.mk hy
                  clear hy hce hcell
                  have HRH := ls_has w _ p c t d fs [] HS.out y (kwf_of (by omega) (by omega))
                  cases hd : d y with
                  | some a =>
                    rw [hasV_some hd] at HRH
                    have HRH := Box.mk HRH
                    obtain ⟨f1, f2, f, f3⟩ := ans_some (d := d) (id := y) (st := 2) fs true (by omega) (by omega) (by rw [hd]; rfl)
                    have HR1 : Box (∀ w', LS w w' p c t d fs [] → Calls Try.prog 12 #[.pointer (some ⟨p, 0, none⟩), .int .i64 y, .int .i64 2, .bool true] w' fun e w'' => e = .returned (.int .i64 0) ∧ LS w w'' p c t (at1 d y none) (fs ++ [f]) []) := ⟨fun w' h => by
                      have := ls_answer w w' p c t d fs [] h y 2 true (kwf_of (by omega) (by omega)) (by omega)
                      rw [f1, f2, f3] at this
                      exact this⟩
                    obtain ⟨g1, g2, g3⟩ := ans_none (d := at1 d y none) (id := y) (st := 2) (fs ++ [f]) true (by omega) (by omega) (at1_same _ _ _)
                    have HR2 : Box (∀ w', LS w w' p c t (at1 d y none) (fs ++ [f]) [] → Calls Try.prog 12 #[.pointer (some ⟨p, 0, none⟩), .int .i64 y, .int .i64 2, .bool true] w' fun e w'' => e = .returned (.int .i64 6) ∧ LS w w'' p c t (at1 d y none) (fs ++ [f]) []) := ⟨fun w' h => by
                      have := ls_answer w w' p c t (at1 d y none) (fs ++ [f]) [] h y 2 true (kwf_of (by omega) (by omega)) (by simp; omega)
                      rw [g1, g2, g3] at this
                      exact this⟩
                    have hcd := cnt_del (d := d) (k := y) (by omega) (by rw [hd]; rfl)
                    have HO2 : Box (OkD c n z (at1 d y none) ∧ cntD (at1 d y none) + (fs ++ [f]).length + k = m ∧ ∀ k', k' < i + 1 → at1 d y none (zv z k') = none) := ⟨HO.out.1.del y, by have := HO.out.2.1; simp; omega, fun k hk => by
                      by_cases e : zv z k = y
                      · rw [e, at1_same]
                      · rw [at1_ne _ _ e]
                        refine HO.out.2.2 k ?_
                        rcases Nat.lt_or_ge k i with h | h
                        · exact h
                        · exact absurd (by rw [show k = i from by omega]; exact HY.out) e⟩
                    clear f1 f2 f3 g1 g2 g3 hcd hd HO
                    go_upto_region 30 with (go_at_call 16; (with_reducible refine HRH.out.mono ?_); rintro e w5 ⟨rfl, hs⟩; have HS := Box.mk hs; clear hs; have cx := (HS.out.below.cell (p := ⟨b, off + i, none⟩) hbw).trans HCE.out)
                    clear HRH
                    go_wp2_with (first
                      | (go_at_call 12; refine (HR1.out _ HS.out).mono ?_; rintro e w6 ⟨rfl, hs⟩; have HS := Box.mk hs; clear hs; have cx := (HS.out.below.cell (p := ⟨b, off + i, none⟩) hbw).trans HCE.out)
                      | (go_at_call 12; refine (HR2.out _ HS.out).mono ?_; rintro e w6 ⟨rfl, hs⟩; have HS := Box.mk hs; clear hs; have cx := (HS.out.below.cell (p := ⟨b, off + i, none⟩) hbw).trans HCE.out))
                    go_roundw
                    case rel => exact ⟨i + 1, _, _, by omega, by go_num, HO2, HS⟩
                    case measure => simp [intOf] <;> omega
                  | none =>
                    rw [hasV_none hd] at HRH
                    have HRH := Box.mk HRH
                    obtain ⟨g1, g2, g3⟩ := ans_none (d := d) (id := y) (st := 2) fs true (by omega) (by omega) hd
                    have HR2 : Box (∀ w', LS w w' p c t d fs [] → Calls Try.prog 12 #[.pointer (some ⟨p, 0, none⟩), .int .i64 y, .int .i64 2, .bool true] w' fun e w'' => e = .returned (.int .i64 6) ∧ LS w w'' p c t d fs []) := ⟨fun w' h => by
                      have := ls_answer w w' p c t d fs [] h y 2 true (kwf_of (by omega) (by omega)) (by omega)
                      rw [g1, g2, g3] at this
                      exact this⟩
                    have HO2 : Box (OkD c n z d ∧ cntD d + fs.length + k = m ∧ ∀ k', k' < i + 1 → d (zv z k') = none) := ⟨HO.out.1, HO.out.2.1, fun k hk => by
                      rcases Nat.lt_or_ge k i with h | h
                      · exact HO.out.2.2 k h
                      · rw [show k = i from by omega, HY.out]; exact hd⟩
                    clear g1 g2 g3 hd HO
                    go_upto_region 30 with (go_at_call 16; (with_reducible refine HRH.out.mono ?_); rintro e w5 ⟨rfl, hs⟩; have HS := Box.mk hs; clear hs; have cx := (HS.out.below.cell (p := ⟨b, off + i, none⟩) hbw).trans HCE.out)
                    clear HRH
                    go_wp2_with (go_at_call 12; refine (HR2.out _ HS.out).mono ?_; rintro e w6 ⟨rfl, hs⟩; have HS := Box.mk hs; clear hs; have cx := (HS.out.below.cell (p := ⟨b, off + i, none⟩) hbw).trans HCE.out)
                    go_roundw
                    case rel => exact ⟨i + 1, _, _, by omega, by go_num, HO2, HS⟩
                    case measure => simp [intOf] <;> omega
                · have e : i = n := by omega
                  subst e
                  have hil3 : ¬ (i : Int) < i := by omega
                  have hdn := all_none HO.out.1 HO.out.2.2
                  subst hdn
                  have hsum : fs.length + k = m := by have := HO.out.2.1; rw [cnt_none] at this; omega
                  have HSUM := Box.mk hsum
                  have HE : Box (∀ l n3, LateL (fun _ => none) (t + 1000 + c) l → n3 = (fs ++ timeF l).length → n3 = fs.length) := ⟨fun l n3 h e => by
                    have hnil : l = [] := List.eq_nil_iff_forall_not_mem.2 fun x hx => by
                      obtain ⟨a, h1, h2⟩ := (h.2 x).1 hx
                      cases h1
                    subst hnil
                    rw [e]; simp [timeF]⟩
                  have HR := ls_go w _ p c t _ fs [] HS.out (t + 1000) (by omega) (by omega) (by omega)
                  rw [show ((t + 1000 : Nat) : Int) = (t : Int) + 1000 from by omega] at HR
                  have HR := Box.mk HR
                  clear hsum
                  go_upto_region 33 with (go_at_call 13; (with_reducible refine HR.out.mono ?_); rintro e w5 ⟨fo3, n3, c3, l3, Y3, rfl, hl3, hn3, hs, -, -, -⟩; have HN3 := Box.mk (HE.out l3 n3 hl3 hn3); have HS : Box (LS w w5 p c (t + 1000) (fun _ => none) [] []) := Box.mk (hs.sub (Y := []) (fun q hq => by cases hq)); clear hs hl3 hn3)
                  clear HR HE
                  have hq : ((n3 : Int) == (m : Int) - (k : Int)) = true := by have := HN3.out; have := HSUM.out; simp; omega
                  have hq2 : (n3 : Int) = (m : Int) - (k : Int) := by have := HN3.out; have := HSUM.out; omega
                  have HCT := ls_count w _ p c (t + 1000) _ [] [] HS.out
                  rw [cnt_none] at HCT
                  have HCT := Box.mk HCT
                  clear hq2
                  go_wp2_with (go_at_call 15; refine HCT.out.mono ?_; rintro e w6 ⟨rfl, rfl⟩)
                  go_ret
                  exact ⟨rfl, HS.out.below⟩
theorem walk (x0 : Int) (a1 : Option Addr) (len1 cap1 : Nat) (z1 : List Int) (x2 : Int) (w : World) (g0 : (Lit.int .u8 x0).wf = true) (g1 : ArgInts .u16 w a1 len1 z1) (g2 : (Lit.int .u8 x2).wf = true) :
    Calls Try.prog 6 #[.int .u8 x0, .slice a1 len1 cap1, .int .u8 x2] w fun e w' => e = .returned (.bool true) ∧ Below w.heap.size w w' := by
  simp [Lit.wf, IntKind.min, IntKind.max, IntKind.signed, IntKind.bits] at g0 g2
  obtain ⟨a, rfl⟩ : ∃ a : Nat, x0 = a := ⟨x0.toNat, by omega⟩
  obtain ⟨m, rfl⟩ : ∃ m : Nat, x2 = m := ⟨x2.toNat, by omega⟩
  exact walkN a a1 len1 cap1 z1 m w (by omega) g1 (by omega)

/-! The row's step. -/
theorem own : ownKnob Try.prog.godebug = none := by kernel_rfl
theorem laidOut : laidOutB Try.prog = true := by kernel_rfl

set_option maxRecDepth 100000 in
theorem lifted (os : Os) (started : os.Started) (H : Type) (enc : TypeId × Value → H) :
    ReturnsInHanded {} Try.checked os 6 .any (Rows.lifeLateSpec.pre6 enc Try.prog Try.f6 Rows.lifeLateRow.domain false) (Rows.lifeLateSpec.post enc Try.prog Try.f6 false true false false) := by
  refine returnsInHanded_of_change (C := Try.checked) own started (by kernel_rfl) Try.func6
    (ChangeSpec.witness6 (enc := enc) (C := Try.checked) false ⟨#[], #[.int .u8 0, .slice none 0 0, .int .u8 0], []⟩ 8 (by kernel_rfl) (by kernel_rfl) (by kernel_rfl) (by kernel_rfl)) ?_
  intro W base args ds gs before hval0 hW hcnd _
  have hval : ∀ (j : Nat) t v, Try.f6.params[j]? = some t → args[j]? = some v → Value.okWide Try.prog W .any base t v := hval0
  have hW' := hW
  obtain ⟨p, q, hA0, hV, rfl, hfz, hnd⟩ := hW
  have hA : DataW.TrodAll enc Try.prog W 0 (fun _ => true) true Try.f6.params.toList args.toList ds p := hA0
  rw [Try.params6] at hA hval
  obtain ⟨v0, vs0, d0, ds0, p0, q0, hargs, rfl, rfl, h0, r0⟩ := trodAll_cons hA
  obtain ⟨v1, vs1, d1, ds1, p1, q1, rfl, rfl, rfl, h1, r1⟩ := trodAll_cons r0
  obtain ⟨v2, vs2, d2, ds2, p2, q2, rfl, rfl, rfl, h2, r2⟩ := trodAll_cons r1
  obtain ⟨rfl, rfl, rfl⟩ := trodAll_nil r2
  obtain rfl : args = #[v0, v1, v2] := by cases args; simp_all
  obtain ⟨rfl, rfl⟩ := trodVars_none hV
  obtain ⟨x0, rfl, rfl, rfl, w0⟩ := open_int Try.underlying5 (hval 0 5 v0 rfl rfl) h0
  obtain ⟨a1, len1, cap1, rfl⟩ := okWide_slice Try.underlying37 (hval 1 37 v1 rfl rfl)
  have k1 := h1
  have lt1 : ∀ x ∈ p1, x.block < W.heap.size := by obtain ⟨m, hm⟩ := k1; exact DataW.trod_lt m _ _ _ hm
  obtain ⟨z1, w1⟩ : ∃ zs, ArgInts .u16 W a1 len1 zs := by
    obtain ⟨fuel, hf⟩ := h1
    rcases open_ints Try.underlying37 Try.underlying38 (by kernel_rfl) hf with ⟨hcs, _⟩ | ⟨x, l, c, zs, hcs, _, hl, hm, hz, _, hcell, hwz⟩
    · simp [Value.cells] at hcs
      obtain ⟨rfl, rfl, rfl⟩ := hcs
      exact ⟨[], rfl, by omega, by simp, fun h => by omega⟩
    · simp [Value.cells] at hcs
      obtain ⟨rfl, rfl, rfl⟩ := hcs
      exact ⟨zs.take len1, argInts_of_ints hl hm (by simpa using hz) hcell hwz⟩
  obtain ⟨x2, rfl, rfl, rfl, w2⟩ := open_int Try.underlying5 (hval 2 5 v2 rfl rfl) h2
  clear hA0 hval0
  refine (walk x0 a1 len1 cap1 z1 x2 W w0 w1 w2).mono fun e W' ⟨he, bel⟩ => ?_
  subst he
  exact ⟨_, rfl, _, _, _, [], _, [], hW', trodAll_mk1 (shut_bool Try.underlying4 _), (trodAll_cons_mk (shut_int Try.underlying5 w0) (trodAll_cons_mk (Below.trod laidOut (by kernel_rfl) (of_decide_eq_true (by kernel_rfl)) k1 bel lt1) (trodAll_cons_mk (shut_int Try.underlying5 w2) trodAll_mk0))), rfl, bel.frame _, fun h => by cases h⟩

theorem over : Rows.lifeLateRow.holds Try.pinned (OpenSpec.ofChange Rows.lifeLateSpec) :=
  OpenClaim.holds_of_wide 6 Try.f6 rfl rfl rfl rfl rfl rfl rfl ⟨rfl, rfl, rfl, rfl, rfl⟩ rfl rfl rfl rfl rfl (by kernel_rfl) Try.func6 (by kernel_rfl)
    (of_decide_eq_true (by kernel_rfl)) (by unfold Func.isWrapper; first | (rw [if_pos (by decide +kernel)]; kernel_rfl) | (rw [if_neg (by decide +kernel)]; exact ⟨rfl, rfl⟩))
    (fun os started H enc _ => lifted os started H enc)

/-- The statement. -/
theorem proved : Rows.LifeLateSaid := over
#print axioms proved

end Go.Proofs.Ytbodnmcaipakcaa.lifeLate
