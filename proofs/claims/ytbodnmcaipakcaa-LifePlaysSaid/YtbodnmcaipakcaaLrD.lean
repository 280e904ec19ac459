/-
  The document's book: Answer, Cancel, Go; Same.
-/
import Derived.Test.YtbodnmcaipakcaaLrB
import Derived.BigQuiet
namespace Go.Proofs.Ytbodnmcaipakcaa
open Go.RowKit

/-- The document's list holds who is open, in order. -/
structure RelB (d : Int → Option Nat) (L : List Tm) : Prop where
  srt : TSort L
  mem : ∀ m, m ∈ L ↔ d m.id = some m.at'
theorem RelB.start : RelB (fun _ => none) [] := ⟨List.Pairwise.nil, fun m => ⟨fun h => (by cases h), fun h => (by cases h)⟩⟩
theorem RelB.uniq {d : Int → Option Nat} {L : List Tm} (h : RelB d L) : TUniq L := fun a ha b hb e => by
  have h1 := (h.mem a).1 ha
  have h2 := (h.mem b).1 hb
  rw [e, h2] at h1
  injection h1 with h1
  cases a; cases b; simp_all
theorem RelB.find {d : Int → Option Nat} {L : List Tm} (h : RelB d L) (x : Int) : (d x = none ∧ FindR L x (-1)) ∨ ∃ k : Nat, ∃ hk : k < L.length, L[k].id = x ∧ d x = some L[k].at' ∧ FindR L x (k : Int) := by
  obtain ⟨r, hr⟩ := findR_ex L x
  have hr0 := hr
  rcases hr with ⟨k, rfl, hk, h1, h2⟩ | ⟨rfl, h1⟩
  · exact .inr ⟨k, hk, h1, by rw [← h1]; exact (h.mem _).1 (List.getElem_mem hk), hr0⟩
  · refine .inl ⟨?_, hr0⟩
    cases hd : d x with
    | none => rfl
    | some a => exact absurd rfl (h1 ⟨x, a⟩ ((h.mem _).2 hd))
theorem RelB.drop {d : Int → Option Nat} {L : List Tm} (h : RelB d L) {k : Nat} (hk : k < L.length) : RelB (at1 d L[k].id none) (L.take k ++ L.drop (k + 1)) := by
  refine ⟨tdrop_sort h.srt k, fun m => ?_⟩
  rw [tdrop_mem h.srt h.uniq hk, h.mem]
  by_cases e : m.id = L[k].id
  · rw [e, at1_same]
    simp
  · rw [at1_ne _ _ e]
    simp [e]
theorem RelB.len {d : Int → Option Nat} {L : List Tm} (h : RelB d L) (hd : ∀ x a, d x = some a → 0 ≤ x ∧ x ≤ 65535) : L.length = cntD d := by
  have hn : (L.map Tm.id).Nodup := by
    rw [List.nodup_iff_pairwise_ne, List.pairwise_map]
    exact (List.nodup_iff_pairwise_ne.1 (tsort_nodup h.srt)).imp_of_mem fun {a b} ha hb hne e => hne (h.uniq a ha b hb e)
  have hn2 : (((List.range 65536).filter (fun i : Nat => (d (i : Int)).isSome)).map (fun i : Nat => (i : Int))).Nodup := by
    rw [List.nodup_iff_pairwise_ne, List.pairwise_map]
    exact (List.nodup_iff_pairwise_ne.1 (List.nodup_range.filter _)).imp (fun h => by omega)
  have e := len_eq_of_mem hn hn2 (fun x => by
    rw [List.mem_map, List.mem_map]
    constructor
    · rintro ⟨m, hm, rfl⟩
      have h1 := (h.mem m).1 hm
      have h2 := hd _ _ h1
      have ex : ((m.id.toNat : Nat) : Int) = m.id := by omega
      exact ⟨m.id.toNat, List.mem_filter.2 ⟨List.mem_range.2 (by omega), by rw [ex, h1]; rfl⟩, ex⟩
    · rintro ⟨i, hi, rfl⟩
      obtain ⟨a, ha⟩ := Option.isSome_iff_exists.1 (List.mem_filter.1 hi).2
      exact ⟨⟨i, a⟩, (h.mem _).2 ha, rfl⟩)
  rw [List.length_map, List.length_map] at e
  exact e

theorem rkout_any (q cost now : Nat) (L : List Tm) (fs : List FateM) (G : Nat → Prop) (id kind why : Int) (w : World) (h : RK w q cost now L fs G) (hlen : L.length ≤ 1000000) (hfl : fs.length ≤ 1000000) (d : Int → Option Nat) (hr : RelB d L) :
    Calls Try.prog 31 #[.pointer (some ⟨q, 0, none⟩), .int .i64 id, .int .i64 kind, .int .i64 why] w fun e w' => e = .returned (.int .i64 (outD d id)) ∧ ∃ L', RelB (at1 d id none) L' ∧ RKPost w q cost now L' (fsO d fs ⟨id, kind, why⟩) G w' := by
  rcases hr.find id with ⟨hd, hf⟩ | ⟨k, hk, hid, hd, hf⟩
  · refine (rbout_none q cost now L fs G id kind why w h hf).mono fun e w' hx => ?_
    have e1 : outD d id = 6 := by unfold outD; rw [hd]; rfl
    have e2 : fsO d fs ⟨id, kind, why⟩ = fs := by unfold fsO; simp only; rw [hd]; rfl
    have e3 : at1 d id none = d := by
      funext x
      by_cases e : x = id
      · subst e; rw [at1_same, hd]
      · rw [at1_ne _ _ e]
    rw [e1, e2, e3, ← hx.2]
    exact ⟨hx.1, L, hr, RKPost.same h⟩
  · refine (rbout_some q cost now L fs G id kind why w h hlen hfl k hk hf).mono fun e w' hx => ?_
    have e1 : outD d id = 0 := by unfold outD; rw [hd]; rfl
    have e2 : fsO d fs ⟨id, kind, why⟩ = fs ++ [⟨id, kind, why⟩] := by unfold fsO; simp only; rw [hd]; rfl
    rw [e1, e2]
    refine ⟨hx.1, _, ?_, hx.2⟩
    rw [← hid]
    exact hr.drop hk

set_option maxHeartbeats 4000000 in
theorem rkanswer_any (q cost now : Nat) (L : List Tm) (fs : List FateM) (G : Nat → Prop) (id st : Int) (bad : Bool) (w : World) (h : RK w q cost now L fs G) (hlen : L.length ≤ 1000000) (hfl : fs.length ≤ 1000000) (d : Int → Option Nat) (hr : RelB d L) :
    Calls Try.prog 18 #[.pointer (some ⟨q, 0, none⟩), .int .i64 id, .int .i64 st, .bool bad] w fun e w' => e = .returned (.int .i64 (ansC d id st)) ∧ ∃ L', RelB (ansD d id st) L' ∧ RKPost w q cost now L' (ansF d fs id st bad) G w' := by
  unfold ansC ansD ansF
  by_cases h1 : st < 0
  · rw [if_pos (.inl h1), if_pos (.inl h1), if_pos (.inl h1)]
    have HE := Box.mk (And.intro hr (RKPost.same h))
    clear h hr
    go_enter Try.func18, Try.ntmps18
    go_wp2
    go_ret
    exact ⟨rfl, L, HE.out⟩
  · by_cases h2 : 255 < st
    · rw [if_pos (.inr h2), if_pos (.inr h2), if_pos (.inr h2)]
      have HE := Box.mk (And.intro hr (RKPost.same h))
      clear h hr
      go_enter Try.func18, Try.ntmps18
      go_wp2
      go_ret
      exact ⟨rfl, L, HE.out⟩
    · rw [if_neg (by omega), if_neg (by omega), if_neg (by omega)]
      cases bad with
      | true =>
        have HO := Box.mk (rkout_any q cost now L fs G id 2 2 w h hlen hfl d hr)
        clear h hr
        simp only [if_true]
        go_enter Try.func18, Try.ntmps18
        go_wp2_with (go_at_call 31; (with_reducible refine HO.out.mono ?_); rintro e w1 ⟨rfl, hx⟩; have HX := Box.mk hx; clear hx)
        go_ret
        exact ⟨rfl, HX.out⟩
      | false =>
        have HO := Box.mk (rkout_any q cost now L fs G id 1 st w h hlen hfl d hr)
        clear h hr
        simp only [Bool.false_eq_true, if_false]
        go_enter Try.func18, Try.ntmps18
        go_wp2_with (go_at_call 31; (with_reducible refine HO.out.mono ?_); rintro e w1 ⟨rfl, hx⟩; have HX := Box.mk hx; clear hx)
        go_ret
        exact ⟨rfl, HX.out⟩
set_option maxHeartbeats 4000000 in
theorem rkcancel_any (q cost now : Nat) (L : List Tm) (fs : List FateM) (G : Nat → Prop) (id : Int) (w : World) (h : RK w q cost now L fs G) (hlen : L.length ≤ 1000000) (hfl : fs.length ≤ 1000000) (d : Int → Option Nat) (hr : RelB d L) :
    Calls Try.prog 19 #[.pointer (some ⟨q, 0, none⟩), .int .i64 id] w fun e w' => e = .returned (.int .i64 (outD d id)) ∧ ∃ L', RelB (at1 d id none) L' ∧ RKPost w q cost now L' (fsO d fs ⟨id, 2, 3⟩) G w' := by
  have HO := Box.mk (rkout_any q cost now L fs G id 2 3 w h hlen hfl d hr)
  clear h hr
  go_enter Try.func19, Try.ntmps19
  go_wp2_with (go_at_call 31; (with_reducible refine HO.out.mono ?_); rintro e w1 ⟨rfl, hx⟩; have HX := Box.mk hx; clear hx)
  go_ret
  exact ⟨rfl, HX.out⟩

set_option maxHeartbeats 2000000 in
theorem rkgo_big (q t : Nat) (w : World) (h1 : 4611686018427387904 ≤ t) :
    Calls Try.prog 20 #[.pointer (some ⟨q, 0, none⟩), .int .u64 t] w fun e w' => e = .returned (.tuple #[.slice none 0 0, .int .i64 2]) ∧ w = w' := by
  have eB : ((4611686018427387904 : Int) ≤ (t : Int)) = True := eq_true (by omega)
  clear h1
  go_enter Try.func20, Try.ntmps20
  go_wp2
  go_ret2
  exact ⟨rfl, rfl⟩
set_option maxHeartbeats 2000000 in
theorem rkgo_past (q cost now t : Nat) (L : List Tm) (fs : List FateM) (G : Nat → Prop) (w : World) (h : RK w q cost now L fs G) (h1 : t < now) (h2 : now < 4611686018427387904) :
    Calls Try.prog 20 #[.pointer (some ⟨q, 0, none⟩), .int .u64 t] w fun e w' => e = .returned (.tuple #[.slice none 0 0, .int .i64 1]) ∧ w = w' := by
  obtain ⟨a, c, fv, h, rfl⟩ := h
  have hcn := h.c1
  have hlt : (t : Int) < (now : Int) := by omega
  have eB : ((4611686018427387904 : Int) ≤ (t : Int)) = False := eq_false (by omega)
  clear h
  go_enter Try.func20, Try.ntmps20
  go_wp2
  go_ret2
  exact ⟨rfl, rfl⟩

def lenAt (w : World) (q : Nat) : Nat := match w.cell? ⟨q, 2, none⟩ with
  | some v => lenOf v
  | none => 0
theorem lenAt_of {w : World} {q cost now : Nat} {L : List Tm} {fs : List FateM} {a : Option Addr} {c : Nat} {fv : Value} (h : RB w q cost now L fs a c fv) : lenAt w q = L.length := by
  unfold lenAt; rw [h.c2]; rfl
/-- What Go leaves. -/
def RKGo (w : World) (q cost t : Nat) (L : List Tm) (fs : List FateM) (G : Nat → Prop) (e : Ending) (w' : World) : Prop := ∃ k fo N fc, e = .returned (.tuple #[.slice fo N fc, .int .i64 0]) ∧ k ≤ L.length ∧ (∀ j (hj : j < L.length), j < k → L[j].at' ≤ t + cost) ∧ (∀ hk : k < L.length, t + cost < L[k].at') ∧
  N = (fs ++ timeF ((L.take k).map Tm.id)).length ∧ w'.ownsRow 0 35 3 (.slice fo N fc) N (fcells (fs ++ timeF ((L.take k).map Tm.id))) ∧ ∃ G', RK w' q cost t (L.drop k) [] G' ∧ Fr G w w' ∧ Gro G G' w ∧ ∀ g, (Value.slice fo N fc).ownBlock = some g → (G g ∨ w.heap.size ≤ g) ∧ ¬ G' g

theorem rkgo_end {w wr : World} {q cost t k : Nat} {L : List Tm} {fs : List FateM} {a a' : Option Addr} {c' : Nat} {fv : Value} {fo : Option Addr} {fc : Nat} (hk : k ≤ L.length) (h1 : ∀ j (hj : j < L.length), j < k → L[j].at' ≤ t + cost) (h2 : ∀ hk : k < L.length, t + cost < L[k].at')
    (hr : RB wr q cost t (L.drop k) (fs ++ timeF ((L.take k).map Tm.id)) a' c' (.slice fo (fs ++ timeF ((L.take k).map Tm.id)).length fc)) (hf : Fr (RF q a fv) w wr) (hg : Gro (RF q a fv) (RF q a' (.slice fo (fs ++ timeF ((L.take k).map Tm.id)).length fc)) w) (wx : World) (hx : Below wr.heap.size wr wx) :
    RKGo w q cost t L fs (RF q a fv) (.returned (.tuple #[.slice fo (fs ++ timeF ((L.take k).map Tm.id)).length fc, .int .i64 0])) (wx.setCell ⟨q, 3, none⟩ (.slice none 0 0)) := by
  have hr2 := hr.later hx
  have hf2 := (Fr.of_below (F := fun _ => False) hx)
  have hs := hr2.setF (fs' := []) (fv' := .slice none 0 0) (w := wx) (Fr.refl _ wx) ⟨by simp [fcells], .inl ⟨rfl, rfl⟩⟩ (fun k hk => by simp [Value.ownBlock] at hk)
  obtain ⟨s1, s2, s3⟩ := hs
  have hsz := hf.size
  refine ⟨k, fo, _, fc, rfl, hk, h1, h2, rfl, ?_, _, ⟨_, _, _, s1, rfl⟩, ?_, ?_, ?_⟩
  · exact ownsRow_fr hr2.out (fun g hg2 => (frq wx q 3 (.slice none 0 0)).block g (ownsRow_lt hr2.out hg2).2 (fun e => hr2.s (e ▸ hg2)))
  · refine (hf.trans (hf2.mono (fun _ _ h => h.elim))).trans' (frq wx q 3 (.slice none 0 0)) (fun i _ e => .inl e)
  · rintro i (rfl | hi | hi)
    · exact .inl (.inl rfl)
    · exact hg i (.inr (.inl hi))
    · simp [Value.ownBlock] at hi
  · intro g hg2
    refine ⟨hg g (.inr (.inr hg2)), ?_⟩
    rintro (rfl | ⟨ad, hi, e⟩ | hi)
    · exact hr.s hg2
    · rcases hr.row with ⟨e1, _⟩ | ⟨g1, off, e1, hh, _⟩
      · rw [e1] at hi; cases hi
      · rw [e1] at hi; injection hi with hi; subst hi; simp only at e; subst e; exact hh.2 hg2
    · simp [Value.ownBlock] at hi

set_option maxHeartbeats 8000000 in
set_option maxRecDepth 100000 in
theorem rkgo_any (q cost now t : Nat) (L : List Tm) (fs : List FateM) (G : Nat → Prop) (w : World) (h : RK w q cost now L fs G) (hlen : L.length ≤ 65536) (hfl : fs.length ≤ 900000) (h1 : now ≤ t) (h2 : t < 4611686018427387904) (hco : cost ≤ 1000) (d : Int → Option Nat) (hr : RelB d L) (hmin : ∀ m ∈ L, cost ≤ m.at' ∧ m.at' ≤ 4611686018427387904) :
    Calls Try.prog 20 #[.pointer (some ⟨q, 0, none⟩), .int .u64 t] w (RKGo w q cost t L fs G) := by
  obtain ⟨a, c, fv, h, rfl⟩ := h
  have k1 := h.c1
  have f1 := h.free 1
  have hlt : ¬ (t : Int) < (now : Int) := by omega
  have hltB : decide (t < now) = false := decide_eq_false (by omega)
  have eB : ((4611686018427387904 : Int) ≤ (t : Int)) = False := eq_false (by omega)
  have HS0 : Box (RB (w.setCell ⟨q, 1, none⟩ (.int .u64 t)) q cost t (L.drop 0) (fs ++ timeF ((L.take 0).map Tm.id)) a c fv) := ⟨by
    have e : fs ++ timeF ((L.take 0).map Tm.id) = fs := by simp [timeF]
    rw [List.drop_zero, e]
    exact h.setNow t⟩
  have HF0 : Box (Fr (RF q a fv) w (w.setCell ⟨q, 1, none⟩ (.int .u64 t))) := ⟨(frq w q 1 _).mono (fun k _ e => .inl e)⟩
  have HSRT := Box.mk hr.srt
  have HU := Box.mk hr.uniq
  have HMIN := Box.mk hmin
  clear h hr hmin
  go_enter Try.func20, Try.ntmps20
  go_upto_block 0 with fail
  generalize w.setCell ⟨q, 1, none⟩ (.int .u64 t) = w1 at HS0 HF0 ⊢
  clear k1 f1 hlt hltB eB
  go_wp2
  go_loopw [] (fun wr => ∃ (k : Nat) (a' : Option Addr) (c' : Nat) (fv' : Value), k ≤ L.length ∧ Box (∀ j (hj : j < L.length), j < k → L[j].at' ≤ t + cost) ∧ Box (RB wr q cost t (L.drop k) (fs ++ timeF ((L.take k).map Tm.id)) a' c' fv') ∧ Box (Fr (RF q a fv) w wr) ∧ Box (Gro (RF q a fv) (RF q a' fv') w)) (fun wr => lenAt wr q)
  case atStart => exact ⟨0, a, c, fv, by omega, ⟨fun j _ h => by omega⟩, HS0, HF0, ⟨Gro.refl _ _⟩⟩
  case round =>
    clear HS0 HF0
    obtain ⟨k, a', c', fv', hk, HX, HR, HF, HG⟩ := hrel
    obtain ⟨fo, fc, rfl⟩ := ownsRow_slice HR.out.out
    have HLA := Box.mk (lenAt_of HR.out)
    have k0 := HR.out.c0
    have k2 := HR.out.c2
    obtain ⟨N, hN⟩ : ∃ N, (L.drop k).length = N := ⟨_, rfl⟩
    have HN := Box.mk hN
    rw [hN] at k2
    have hNk : N = L.length - k := by rw [← hN, List.length_drop]
    have HFL : Box ((fs ++ timeF ((L.take k).map Tm.id)).length = fs.length + k) := ⟨by simp [timeF]; omega⟩
    clear hN
    by_cases hgo : ∃ hlt : k < L.length, (L[k]'hlt).at' ≤ t + cost
    · obtain ⟨hkl, hle⟩ := hgo
      have hdr : L.drop k = L[k] :: L.drop (k + 1) := List.drop_eq_getElem_cons hkl
      obtain ⟨g, off, rfl, d0, d1⟩ : ∃ g off, a' = some ⟨g, off, none⟩ ∧ wr.cell? ⟨g, off, none⟩ = some (.int .i64 L[k].id) ∧ wr.cell? ⟨g, off + 1, none⟩ = some (.int .u64 L[k].at') := by
        have hrow := HR.out.row
        rw [hdr] at hrow
        rcases hrow with ⟨_, e, _⟩ | ⟨g, off, e, _, _, _, _, hc⟩
        · cases e
        · exact ⟨g, off, e, by simpa using hc 0 _ (by rfl), by simpa using hc 1 _ (by rfl)⟩
      have hb1 := (HMIN.out _ (List.getElem_mem hkl)).1
      have hb2 := (HMIN.out _ (List.getElem_mem hkl)).2
      have HX2 : Box (∀ j (hj : j < L.length), j < k + 1 → L[j].at' ≤ t + cost) := ⟨fun j hj hjk => by
        by_cases e : j = k
        · subst e; exact hle
        · exact HX.out j hj (by omega)⟩
      have HFN : Box (FindR (L.drop k) L[k].id ((0 : Nat) : Int)) := ⟨by
        refine .inl ⟨0, rfl, by rw [List.length_drop]; omega, by simp, fun j _ h => by omega⟩⟩
      have HOUT := Box.mk (fun n => rbout_some q cost t (L.drop k) (fs ++ timeF ((L.take k).map Tm.id)) _ L[k].id 2 1 (wr.drewN n) (RK.later ⟨_, _, _, HR.out, rfl⟩ (same_drawn n)) (by rw [List.length_drop]; omega) (by rw [HFL.out]; omega) 0 (by rw [List.length_drop]; omega) HFN.out)
      have HL1 : Box ((L.drop k).take 0 ++ (L.drop k).drop (0 + 1) = L.drop (k + 1) ∧ (fs ++ timeF ((L.take k).map Tm.id)) ++ [⟨L[k].id, 2, 1⟩] = fs ++ timeF ((L.take (k + 1)).map Tm.id)) := ⟨by
        constructor
        · rw [List.take_zero, List.nil_append, List.drop_drop]
        · rw [List.take_succ_eq_append_getElem hkl, List.map_append]; simp [timeF]⟩
      have hNp : (0 : Int) < (N : Int) := by omega
      have hNpn : 0 < N := by omega
      have hci : (cost : Int) ≤ (L[k].at' : Int) := by omega
      have hsub : (L[k].at' : Int) - (cost : Int) ≤ (t : Int) := by omega
      clear hdr hle hNk
      generalize L[k].at' = y at d1 hb1 hb2 hci hsub
      generalize L[k].id = z at d0 HOUT HL1
      go_upto_region 6 with fail
      go_quiet (fail)
      go_wp2_with (go_at_call 31; (with_reducible refine (HOUT.out _).mono ?_); rintro e w2 ⟨rfl, G', hrk, hfr, hgr⟩; have HP := Box.mk (And.intro hrk (And.intro hfr hgr)); clear hrk hfr hgr)
      obtain ⟨⟨a2, c2, fv2, hrb, rfl⟩, hfr, hgr⟩ := HP.out
      rw [HL1.out.1, HL1.out.2] at hrb
      have HB2 := Box.mk hrb
      have HF2 : Box (Fr (RF q a fv) w w2) := ⟨(HF.out.drewN nq).trans' hfr (fun i hi hG => (HG.out i hG).resolve_right (by omega))⟩
      have HG2 : Box (Gro (RF q a fv) (RF q a2 fv2) w) := ⟨HG.out.trans hgr (HF.out.drewN nq).size⟩
      have HLB := Box.mk (lenAt_of hrb)
      clear hrb hfr hgr HP HOUT
      go_roundw
      case rel => exact ⟨k + 1, a2, c2, fv2, by omega, HX2, HB2, HF2, HG2⟩
      case measure => rw [HLA.out, HLB.out, List.length_drop, List.length_drop]; omega
    · have HX2 : Box (∀ hk : k < L.length, t + cost < L[k].at') := ⟨fun hkl => by
        rcases Nat.lt_or_ge (t + cost) L[k].at' with h | h
        · exact h
        · exact absurd ⟨hkl, h⟩ hgo⟩
      have k3 := HR.out.c3
      have f3 := HR.out.free 3
      have HEND := Box.mk (rkgo_end (w := w) hk HX.out HX2.out HR.out HF.out HG.out)
      rw [HFL.out] at k3 HEND
      by_cases hkl : k < L.length
      · have hdr : L.drop k = L[k] :: L.drop (k + 1) := List.drop_eq_getElem_cons hkl
        obtain ⟨g, off, rfl, d1⟩ : ∃ g off, a' = some ⟨g, off, none⟩ ∧ wr.cell? ⟨g, off + 1, none⟩ = some (.int .u64 L[k].at') := by
          have hrow := HR.out.row
          rw [hdr] at hrow
          rcases hrow with ⟨_, e, _⟩ | ⟨g, off, e, _, _, _, _, hc⟩
          · cases e
          · exact ⟨g, off, e, by simpa using hc 1 _ (by rfl)⟩
        have hb1 := (HMIN.out _ (List.getElem_mem hkl)).1
        have hb2 := (HMIN.out _ (List.getElem_mem hkl)).2
        have hgt := HX2.out hkl
        have hNp : (0 : Int) < (N : Int) := by omega
        have hNpn : 0 < N := by omega
        have hci : (cost : Int) ≤ (L[k].at' : Int) := by omega
        have hsub : ¬ (L[k].at' : Int) - (cost : Int) ≤ (t : Int) := by omega
        clear hdr hgt hgo hNk
        generalize L[k].at' = y at d1 hb1 hb2 hci hsub
        go_upto_region 6 with fail
        go_quiet (fail)
        go_wp2
        go_ret2
        exact HEND.out _ (same_drawn _)
      · obtain rfl : N = 0 := by omega
        clear hgo hNk
        go_upto_region 6 with fail
        go_quiet (fail)
        go_wp2
        go_ret2
        exact HEND.out _ (same_drawn _)

end Go.Proofs.Ytbodnmcaipakcaa
