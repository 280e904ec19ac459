/-
  WheelAgain: a timer that is set again goes off at its last time alone; one that was cancelled doesn't; one that went off may be set anew. No condition but the statement's.
-/
import Derived.Test.YthlaebleaooeiaaWhS
import Derived.Test.YthlaebleaooeiaaArgsA
import Derived.Test.YthlaebleaooeiaaRows
namespace Go.Proofs.Ythlaebleaooeiaa.wheelAgain
open Go.ChangeShapes Go.WideShapes Go.ChangeAt Go.RowKit Go.Proofs.Ythlaebleaooeiaa

/-- Timer i's first time, its second one, its last one (0: none). -/
def fA (f : Nat → Nat → Int) (i : Nat) : Nat := 1 + (f i 0).toNat
def fB (f : Nat → Nat → Int) (i : Nat) : Nat := 1 + (f i 1).toNat
def fW (f : Nat → Nat → Int) (i : Nat) : Nat := if fA f i % 3 = 0 then 0 else if fA f i % 3 = 1 then fB f i else fA f i
def gW (f : Nat → Nat → Int) (i : Nat) : Nat → Option Nat := fun j => if j < i ∧ fW f j ≠ 0 then some (fW f j) else none
theorem gW_some {f : Nat → Nat → Int} {n j a : Nat} : gW f n j = some a ↔ j < n ∧ fW f j = a ∧ a ≠ 0 := by
  unfold gW
  by_cases h : j < n ∧ fW f j ≠ 0
  · rw [if_pos h]
    simp only [Option.some.injEq]
    constructor
    · rintro rfl; exact ⟨h.1, rfl, h.2⟩
    · rintro ⟨_, e, _⟩; exact e
  · rw [if_neg h]
    constructor
    · intro e; cases e
    · rintro ⟨h1, rfl, h2⟩; exact absurd ⟨h1, h2⟩ h
theorem gW_zero (f : Nat → Nat → Int) : gW f 0 = fun _ => none := by funext j; simp [gW]
def g1 (f : Nat → Nat → Int) (i : Nat) : Nat → Option Nat := updT (gW f i) i (some (fA f i))
theorem set1 {f : Nat → Nat → Int} {i : Nat} (hi : i < 60) (hA : fA f i ≤ 65536) : setC 0 (i : Int) (fA f i) = 0 ∧ setT 0 (gW f i) (i : Int) (fA f i) = g1 f i := by
  have h : setC 0 (i : Int) (fA f i) = 0 := setC_zero.2 (by have : 1 ≤ fA f i := by unfold fA; omega
                                                            omega)
  refine ⟨h, ?_⟩
  unfold setT
  rw [if_pos h, Int.toNat_natCast]
  rfl
theorem set2 {f : Nat → Nat → Int} {i : Nat} (hi : i < 60) (hB : fB f i ≤ 65536) (h1 : fA f i % 3 = 1) : setC 0 (i : Int) (fB f i) = 0 ∧ setT 0 (g1 f i) (i : Int) (fB f i) = gW f (i + 1) := by
  have hb : 1 ≤ fB f i := by unfold fB; omega
  have h : setC 0 (i : Int) (fB f i) = 0 := setC_zero.2 (by omega)
  refine ⟨h, ?_⟩
  unfold setT
  rw [if_pos h, Int.toNat_natCast]
  have hw : fW f i = fB f i := by unfold fW; rw [if_neg (by omega), if_pos h1]
  funext j
  unfold g1 updT gW
  by_cases e : j = i
  · subst e; rw [if_pos rfl, if_pos ⟨by omega, by rw [hw]; omega⟩, hw]
  · rw [if_neg e, if_neg e]
    by_cases h3 : j < i ∧ fW f j ≠ 0
    · rw [if_pos h3, if_pos ⟨by omega, h3.2⟩]
    · rw [if_neg h3, if_neg (fun h4 => h3 ⟨by omega, h4.2⟩)]
theorem can1 {f : Nat → Nat → Int} {i : Nat} (h1 : fA f i % 3 = 0) : canC (g1 f i) (i : Int) = 0 ∧ canT (g1 f i) (i : Int) = gW f (i + 1) := by
  have hw : fW f i = 0 := by unfold fW; rw [if_pos h1]
  constructor
  · have e : gI (g1 f i) (i : Int) = some (fA f i) := by
      unfold gI
      rw [if_pos (by omega), Int.toNat_natCast]
      simp [g1, updT]
    unfold canC
    rw [e]; rfl
  · unfold canT
    rw [if_pos (by omega), Int.toNat_natCast]
    funext j
    unfold g1 updT gW
    by_cases e : j = i
    · subst e; rw [if_pos rfl, if_neg (fun h => h.2 hw)]
    · rw [if_neg e, if_neg e]
      by_cases h3 : j < i ∧ fW f j ≠ 0
      · rw [if_pos h3, if_pos ⟨by omega, h3.2⟩]
      · rw [if_neg h3, if_neg (fun h4 => h3 ⟨by omega, h4.2⟩)]
theorem stay1 {f : Nat → Nat → Int} {i : Nat} (h0 : fA f i % 3 ≠ 0) (h1 : fA f i % 3 ≠ 1) : g1 f i = gW f (i + 1) := by
  have hw : fW f i = fA f i := by unfold fW; rw [if_neg h0, if_neg h1]
  have ha : 1 ≤ fA f i := by unfold fA; omega
  funext j
  unfold g1 updT gW
  by_cases e : j = i
  · subst e; rw [if_pos rfl, if_pos ⟨by omega, by rw [hw]; omega⟩, hw]
  · rw [if_neg e]
    by_cases h3 : j < i ∧ fW f j ≠ 0
    · rw [if_pos h3, if_pos ⟨by omega, h3.2⟩]
    · rw [if_neg h3, if_neg (fun h4 => h3 ⟨by omega, h4.2⟩)]

/-- What is wanted still: of the first i timers those whose last time is behind s. -/
def wantL (f : Nat → Nat → Int) (i s : Nat) : List Int := (List.range 60).map (fun j => if j < i ∧ s < fW f j then (fW f j : Int) else 0)
theorem wantL_len (f : Nat → Nat → Int) (i s : Nat) : (wantL f i s).length = 60 := by simp [wantL]
theorem wantL_get (f : Nat → Nat → Int) (i s : Nat) {j : Nat} (hj : j < 60) : zv (wantL f i s) j = if j < i ∧ s < fW f j then (fW f j : Int) else 0 := by
  unfold zv
  rw [getD_in (by rw [wantL_len]; exact hj)]
  simp [wantL]
theorem wantL_zero (f : Nat → Nat → Int) : wantL f 0 0 = List.replicate 60 0 := by
  apply List.ext_getElem
  · simp [wantL]
  · intro j h1 h2
    simp only [wantL, List.getElem_map, List.getElem_range, List.getElem_replicate]
    rw [if_neg (by omega)]
theorem wantL_next (f : Nat → Nat → Int) {i : Nat} (hi : i < 60) : (wantL f i 0).set i (fW f i : Int) = wantL f (i + 1) 0 := by
  apply List.ext_getElem
  · simp [wantL]
  · intro j h1 h2
    rw [List.getElem_set]
    simp only [wantL, List.getElem_map, List.getElem_range]
    by_cases e : i = j
    · subst e
      rw [if_pos rfl]
      by_cases h : 0 < fW f i
      · rw [if_pos ⟨by omega, h⟩]
      · rw [if_neg (fun h3 => h h3.2)]; omega
    · rw [if_neg e]
      by_cases h : j < i ∧ 0 < fW f j
      · rw [if_pos h, if_pos ⟨by omega, h.2⟩]
      · rw [if_neg h, if_neg (fun h3 => h ⟨by omega, h3.2⟩)]
/-- While the list is gone through. -/
def wantK (f : Nat → Nat → Int) (n s : Nat) (out : List Nat) (k : Nat) : List Int := (List.range 60).map (fun j => if (j < n ∧ s < fW f j) ∧ j ∉ out.take k then (fW f j : Int) else 0)
theorem wantK_len (f : Nat → Nat → Int) (n s : Nat) (out : List Nat) (k : Nat) : (wantK f n s out k).length = 60 := by simp [wantK]
theorem wantK_zero (f : Nat → Nat → Int) (n s : Nat) (out : List Nat) : wantK f n s out 0 = wantL f n s := by simp [wantK, wantL]
theorem wantK_get (f : Nat → Nat → Int) (n s : Nat) (out : List Nat) (k : Nat) {j : Nat} (hj : j < 60) : zv (wantK f n s out k) j = if (j < n ∧ s < fW f j) ∧ j ∉ out.take k then (fW f j : Int) else 0 := by
  unfold zv
  rw [getD_in (by rw [wantK_len]; exact hj)]
  simp [wantK]
theorem wantK_next (f : Nat → Nat → Int) {n s k : Nat} {out : List Nat} (hk : k < out.length) : (wantK f n s out k).set out[k] 0 = wantK f n s out (k + 1) := by
  apply List.ext_getElem
  · simp [wantK]
  · intro j h1 h2
    rw [List.getElem_set]
    simp only [wantK, List.getElem_map, List.getElem_range]
    have hm : j ∈ out.take (k + 1) ↔ j ∈ out.take k ∨ j = out[k] := by rw [List.take_succ_eq_append_getElem hk, List.mem_append, List.mem_singleton]
    by_cases e : out[k] = j
    · rw [if_pos e, if_neg (fun h3 => h3.2 (hm.2 (.inr e.symm)))]
    · rw [if_neg e]
      by_cases h : (j < n ∧ s < fW f j) ∧ j ∉ out.take k
      · rw [if_pos h, if_pos ⟨h.1, fun h3 => (hm.1 h3).elim h.2 (fun h4 => e h4.symm)⟩]
      · rw [if_neg h, if_neg (fun h3 => h ⟨h3.1, fun h4 => h3.2 (hm.2 (.inl h4))⟩)]
theorem out_mem {f : Nat → Nat → Int} {n s t : Nat} {out : List Nat} (h : GoT (goneT (gW f n) s) t out) (i : Nat) : i ∈ out ↔ i < n ∧ s < fW f i ∧ fW f i ≤ t := by
  rw [h.2]
  constructor
  · rintro ⟨a, h1, h2⟩
    obtain ⟨h3, h4⟩ := goneT_some.1 h1
    obtain ⟨h5, h6, _⟩ := gW_some.1 h3
    exact ⟨h5, by omega, by omega⟩
  · rintro ⟨h1, h2, h3⟩
    exact ⟨_, goneT_some.2 ⟨gW_some.2 ⟨h1, rfl, by omega⟩, h2⟩, h3⟩
theorem out_nodup {g : Nat → Option Nat} {t : Nat} {out : List Nat} (h : GoT g t out) : out.Nodup := by
  rw [List.nodup_iff_pairwise_ne]
  exact h.1.imp fun {a b} h e => by subst e; omega
theorem out_fresh {g : Nat → Option Nat} {t : Nat} {out : List Nat} (h : GoT g t out) {k : Nat} (hk : k < out.length) : out[k] ∉ out.take k := by
  intro hc
  obtain ⟨m, hm, e⟩ := List.getElem_of_mem hc
  rw [List.getElem_take] at e
  rw [List.length_take] at hm
  have := (List.pairwise_iff_getElem.1 (List.nodup_iff_pairwise_ne.1 (out_nodup h))) m k (by omega) hk (by omega)
  exact this e
theorem wantK_done {f : Nat → Nat → Int} {n s t : Nat} {out : List Nat} (h : GoT (goneT (gW f n) s) t out) (hst : s ≤ t) : wantK f n s out out.length = wantL f n t := by
  unfold wantK wantL
  rw [List.take_length]
  apply List.map_congr_left
  intro j _
  have hm := out_mem h j
  by_cases h1 : j < n ∧ t < fW f j
  · rw [if_pos ⟨⟨h1.1, by omega⟩, fun h2 => by have := hm.1 h2; omega⟩, if_pos h1]
  · rw [if_neg (fun h2 => h1 ⟨h2.1.1, ?_⟩), if_neg h1]
    rcases Nat.lt_or_ge t (fW f j) with g | g
    · exact g
    · exact absurd (hm.2 ⟨h2.1.1, h2.1.2, g⟩) h2.2
theorem gone_gone {g : Nat → Option Nat} {s t : Nat} (h : s ≤ t) : goneT (goneT g s) t = goneT g t := by
  funext i
  refine Option.ext fun a => ?_
  rw [goneT_some, goneT_some, goneT_some]
  constructor
  · rintro ⟨⟨h1, _⟩, h2⟩; exact ⟨h1, h2⟩
  · rintro ⟨h1, h2⟩; exact ⟨⟨h1, by omega⟩, h2⟩
theorem gone_zero (f : Nat → Nat → Int) (n : Nat) : goneT (gW f n) 0 = gW f n := by
  funext i
  refine Option.ext fun a => ?_
  rw [goneT_some]
  constructor
  · intro h; exact h.1
  · intro h; exact ⟨h, by have := (gW_some.1 h).2.2; omega⟩
theorem gone_none {f : Nat → Nat → Int} {n : Nat} (hb : ∀ i, i < n → fW f i ≤ 65536) : cntT (goneT (gW f n) 70000) = 0 := by
  have : goneT (gW f n) 70000 = fun _ => none := by
    funext i
    refine Option.ext fun a => ?_
    rw [goneT_some]
    constructor
    · rintro ⟨h1, h2⟩
      obtain ⟨h3, h4, _⟩ := gW_some.1 h1
      have := hb i h3
      omega
    · intro h; cases h
  rw [this]
  unfold cntT idsOf
  simp
/-- The times that are gone to. -/
def tsL : List Int := [100, 5000, 70000]
def tsS (m : Nat) : Nat := match m with | 0 => 0 | 1 => 100 | 2 => 5000 | _ => 70000
theorem ts_step {m : Nat} (hm : m < 3) : zv tsL m = (tsS (m + 1) : Int) ∧ tsS m < tsS (m + 1) ∧ tsS (m + 1) ≤ 70000 := by
  have : m = 0 ∨ m = 1 ∨ m = 2 := by omega
  rcases this with rfl | rfl | rfl <;> decide

theorem fW_le {f : Nat → Nat → Int} {i : Nat} (h : (0 ≤ f i 0 ∧ f i 0 ≤ 65535) ∧ 0 ≤ f i 1 ∧ f i 1 ≤ 65535) : fW f i ≤ 65536 := by
  unfold fW
  split
  · omega
  · split
    · unfold fB; omega
    · unfold fA; omega
theorem wantL_W (f : Nat → Nat → Int) {i : Nat} {v : Int} (hi : i < 60) (hv : v = fW f i) (a : Int) : ((wantL f i 0).set i a).set i v = wantL f (i + 1) 0 := by
  rw [List.set_set, hv, wantL_next f hi]
def wO (l : List Int) : Obj := .cells (rowV .i64 l) 3 (0, 0)
abbrev WA (w0 w : World) (p now : Nat) (g : Nat → Option Nat) (B : Nat) (l : List Int) (X : List (Nat × Obj)) : Prop := WS w0 w p now g ((B, .cells (rowV .i64 l) 3 (0, 0)) :: X)
theorem WA.set {w0 w : World} {p now : Nat} {g : Nat → Option Nat} {B : Nat} {l : List Int} {X : List (Nat × Obj)} (h : WA w0 w p now g B l X) (hB : w0.heap.size ≤ B) (hX : ∀ q ∈ X, q.1 ≠ B) (i : Nat) (v : Int) : WA w0 (w.setCell ⟨B, i, none⟩ (.int .i64 v)) p now g B (l.set i v) X := by
  have := WS.set h hB hX i (.int .i64 v)
  rw [rowV_set] at this
  exact this
theorem WA.cell {w0 w : World} {p now : Nat} {g : Nat → Option Nat} {B : Nat} {l : List Int} {X : List (Nat × Obj)} (h : WA w0 w p now g B l X) {i : Nat} (hi : i < l.length) : w.cell? ⟨B, i, none⟩ = some (.int .i64 (zv l i)) :=
  (cell_blk (h.blk (List.mem_cons_self ..)) i).trans (rowV_get hi)
theorem WA.free {w0 w : World} {p now : Nat} {g : Nat → Option Nat} {B : Nat} {l : List Int} {X : List (Nat × Obj)} (h : WA w0 w p now g B l X) (i : Nat) : w.frozen? ⟨B, i, none⟩ = false := free_blk (h.blk (List.mem_cons_self ..)) i

set_option maxHeartbeats 16000000 in
set_option maxRecDepth 100000 in
theorem walk (a0 : Option Addr) (n cap0 : Nat) (f : Nat → Nat → Int) (w : World) (g0 : ArgStructs (List.replicate 2 .u16) w a0 n f) :
    Calls Try.prog 6 #[.slice a0 n cap0] w fun e w' => e = .returned (.bool true) ∧ Below w.heap.size w w' := by
  have hn63 := g0.1
  have HU : Box (∀ i, i < n → (0 ≤ f i 0 ∧ f i 0 ≤ 65535) ∧ 0 ≤ f i 1 ∧ f i 1 ≤ 65535) := ⟨fun i hi => by
    have h1 := g0.2.1 i hi 0 .u16 rfl
    have h2 := g0.2.1 i hi 1 .u16 rfl
    simp [Lit.wf, IntKind.min, IntKind.max, IntKind.signed, IntKind.bits] at h1 h2
    omega⟩
  have HA := Box.mk g0
  have HMK : Box (∀ w, (Instr.makeSlice 28 (.int .i64 60) (.int .i64 60)).run Try.prog w = .ok (.slice (some ⟨w.heap.size, 0, none⟩) 60 60) (w.alloc (.cells (rowV .i64 (wantL f 0 0)) 3))) := ⟨fun w => by rw [wantL_zero]; exact makeInts 60 (by omega) w⟩
  clear g0
  go_enter Try.func6, Try.ntmps6
  go_upto_region 3 with (go_at_call 8; refine (awake04_any _).mono ?_; rintro e w1 ⟨rfl, hb1⟩; have HB1 := Box.mk hb1; have HNW := Box.mk (wt_new w1); clear hb1)
  by_cases hn : 60 < n
  · have hni : (60 : Int) < n := by omega
    go_wp2
    go_ret
    exact ⟨rfl, HB1.out⟩
  · have hni : ¬ (60 : Int) < n := by omega
    go_upto_region 8 with (go_at_call 9; (with_reducible refine HNW.out.mono ?_); rintro e w2 ⟨p, F, rfl, h1, hF, h2⟩; have HS := Box.mk (WS.new HB1.out h1 hF h2 [] (fun q hq => by cases hq)); clear h1 h2 hF)
    clear HNW HB1
    rw [← gW_zero f] at HS
    have hmk := HMK.out
    go_upto_region 9 with fail
    clear hmk
    rename World => w2
    have hBs := HS.out.below.size
    have HS2 := HS.out.alloc (.cells (rowV .i64 (wantL f 0 0)) 3)
    obtain ⟨B, hB⟩ : ∃ B, w2.heap.size = B := ⟨_, rfl⟩
    rw [hB] at HS2 hBs ⊢
    clear hB
    generalize w2.alloc (.cells (rowV .i64 (wantL f 0 0)) 3) = w3 at HS2 ⊢
    have HS := Box.mk HS2
    clear HS2
    go_wp2
    go_loopw [5, 6, 7] (fun s5 _ _ wr => ∃ i : Nat, i ≤ n ∧ s5 = .int .i64 i ∧ Box (WA w wr p 0 (gW f i) B (wantL f i 0) [])) (fun s5 _ _ _ => n - (intOf s5).toNat)
    case atStart => exact ⟨0, by omega, rfl, HS⟩
    case round =>
      clear HS
      obtain ⟨i, hin, rfl, HS⟩ := hrel
      by_cases hlt : i < n
      · obtain ⟨b, off, rfl, hbw, hcell⟩ := HA.out.2.2 (by omega)
        have hu := HU.out i hlt
        have hA1 : ((fA f i : Nat) : Int) = 1 + f i 0 := by unfold fA; omega
        have hB1 : ((fB f i : Nat) : Int) = 1 + f i 1 := by unfold fB; omega
        have x0 := (HS.out.below.cell (p := ⟨b, off + (i * 2 + 0), none⟩) hbw).trans (hcell i hlt 0 .u16 rfl)
        have x1 := (HS.out.below.cell (p := ⟨b, off + (i * 2 + 1), none⟩) hbw).trans (hcell i hlt 1 .u16 rfl)
        rw [Nat.add_zero] at x0
        rw [← Nat.add_assoc] at x1
        have h60 : i < 60 := by omega
        have hset := set1 (f := f) h60 (by omega)
        have HR := ws_set w _ p 0 _ _ HS.out i (fA f i) (kwf_of (by omega) (by omega)) (by omega) 0 _ hset.1 hset.2
        rw [hA1] at HR
        have HR := Box.mk HR
        have HF : Box ((fA f i % 3 = 0 → canC (g1 f i) (i : Int) = 0 ∧ canT (g1 f i) (i : Int) = gW f (i + 1) ∧ fW f i = 0) ∧ (fA f i % 3 = 1 → (setC 0 (i : Int) (fB f i) = 0 ∧ setT 0 (g1 f i) (i : Int) (fB f i) = gW f (i + 1)) ∧ fW f i = fB f i) ∧ (fA f i % 3 ≠ 0 → fA f i % 3 ≠ 1 → g1 f i = gW f (i + 1) ∧ fW f i = fA f i)) :=
          ⟨fun h => ⟨(can1 h).1, (can1 h).2, by unfold fW; rw [if_pos h]⟩, fun h => ⟨set2 h60 (by omega) h, by unfold fW; rw [if_neg (by omega), if_pos h]⟩, fun h1 h2 => ⟨stay1 h1 h2, by unfold fW; rw [if_neg h1, if_neg h2]⟩⟩
        have hil : (i : Int) < n := by omega
        have hil6 : (i : Int) < 60 := by omega
        have HAB := Box.mk (And.intro hA1 hB1)
        have hBw := hBs
        clear hcell hset hA1 hB1 hBw
        obtain ⟨y, hy⟩ : ∃ y, f i 0 = y := ⟨_, rfl⟩
        obtain ⟨x, hx⟩ : ∃ x, f i 1 = x := ⟨_, rfl⟩
        rw [hy, hx] at hu HAB
        rw [hy] at HR x0
        rw [hx] at x1
        have HXY := Box.mk (And.intro hy hx)
        have hx64 : 1 + x ≤ 65536 := by omega
        clear hy hx
        go_upto_region 17 with (go_at_call 10; (with_reducible refine HR.out.mono ?_); rintro e w4 ⟨rfl, hs⟩; have HS := Box.mk hs; have d4 := WA.cell hs (i := i) (by rw [wantL_len]; omega); have e4 := WA.free hs i; clear hs)
        clear HR d4 e4
        have HS2 := WA.set HS.out hBs (fun q hq => by cases hq) i (1 + y)
        clear HS
        rename World => w4
        generalize w4.setCell ⟨B, i, none⟩ (.int .i64 (1 + y)) = w5 at HS2 ⊢
        have HS := Box.mk HS2
        clear HS2
        have hl1 : ((wantL f i 0).set i (1 + y)).length = 60 := by rw [List.length_set, wantL_len]
        have HL1 := Box.mk hl1
        clear hl1
        by_cases h0 : (1 + y) % 3 = 0
        · have hz : (((1 + y) % 3) == 0) = true := by simp [h0]
          obtain ⟨c1, c2, c3⟩ := HF.out.1 (by have := HAB.out.1; omega)
          have HR := Box.mk (ws_cancel w _ p 0 _ _ HS.out i (kwf_of (by omega) (by omega)) 0 _ c1 c2)
          have HN : Box (((wantL f i 0).set i (1 + y)).set i 0 = wantL f (i + 1) 0) := ⟨wantL_W f h60 (by rw [c3]; rfl) _⟩
          clear c1 c2 c3 h0 HF
          go_wp2_with (go_at_call 15; (with_reducible refine HR.out.mono ?_); rintro e w6 ⟨rfl, hs⟩; have HS := Box.mk hs; have d4 := WA.cell hs (i := i) (by rw [HL1.out]; omega); have e4 := WA.free hs i; clear hs)
          have HS2 := WA.set HS.out hBs (fun q hq => by cases hq) i 0
          rw [HN.out] at HS2
          have HS := Box.mk HS2
          clear HS2 d4 e4
          go_roundw
          case rel => exact ⟨i + 1, by omega, by go_num, HS⟩
          case measure => simp [intOf] <;> omega
        · by_cases h1 : (1 + y) % 3 = 1
          · have hz : (((1 + y) % 3) == 0) = false := by simp [h1]
            have hz1 : (((1 + y) % 3) == 1) = true := by simp [h1]
            obtain ⟨⟨c1, c2⟩, c3⟩ := HF.out.2.1 (by have := HAB.out.1; omega)
            have hfb := HAB.out.2
            have HR := ws_set w _ p 0 _ _ HS.out i (fB f i) (kwf_of (by omega) (by omega)) (by omega) 0 _ c1 c2
            rw [hfb] at HR
            have HR := Box.mk HR
            have HN : Box (((wantL f i 0).set i (1 + y)).set i (1 + x) = wantL f (i + 1) 0) := ⟨wantL_W f h60 (by rw [c3]; exact hfb.symm) _⟩
            clear c1 c2 c3 h0 HF h1 hfb
            go_wp2_with (go_at_call 10; (with_reducible refine HR.out.mono ?_); rintro e w6 ⟨rfl, hs⟩; have HS := Box.mk hs; have d4 := WA.cell hs (i := i) (by rw [HL1.out]; omega); have e4 := WA.free hs i; clear hs)
            have HS2 := WA.set HS.out hBs (fun q hq => by cases hq) i (1 + x)
            rw [HN.out] at HS2
            have HS := Box.mk HS2
            clear HS2 d4 e4
            go_roundw
            case rel => exact ⟨i + 1, by omega, by go_num, HS⟩
            case measure => simp [intOf] <;> omega
          · have hz : (((1 + y) % 3) == 0) = false := by simp [h0]
            have hz1 : (((1 + y) % 3) == 1) = false := by simp [h1]
            obtain ⟨c1, c2⟩ := HF.out.2.2 (by have := HAB.out.1; omega) (by have := HAB.out.1; omega)
            have HS2 := HS.out
            rw [c1] at HS2
            have HN : Box ((wantL f i 0).set i (1 + y) = wantL f (i + 1) 0) := ⟨by rw [← wantL_next f h60, c2, HAB.out.1]⟩
            rw [HN.out] at HS2
            have HS := Box.mk HS2
            clear HS2 c1 c2 h0 h1 HF
            go_wp2
            go_roundw
            case rel => exact ⟨i + 1, by omega, by go_num, HS⟩
            case measure => simp [intOf] <;> omega
      · obtain rfl : i = n := by omega
        have hil : ¬ (i : Int) < i := by omega
        rw [← gone_zero] at HS
        rename World => w6
        have hB6 : B < w6.heap.size := HS.out.lt (List.mem_cons_self ..)
        obtain ⟨Bt, hBt⟩ : ∃ Bt, w6.heap.size = Bt := ⟨_, rfl⟩
        have HS2 := HS.out.alloc' (.cells #[.int .i64 100, .int .i64 5000, .int .i64 70000] 3) Bt hBt
        have hBBt : B < Bt := by omega
        go_upto_block 2 with fail
        clear hBt hB6
        generalize w6.alloc (.cells #[.int .i64 100, .int .i64 5000, .int .i64 70000] 3) = w7 at HS2 ⊢
        have HS : Box (WA w w7 p (tsS 0) (goneT (gW f i) (tsS 0)) B (wantL f i (tsS 0)) [(Bt, .cells (rowV .i64 tsL) 3 (0, 0))]) := ⟨HS2.sub (fun q hq => by
          rcases List.mem_cons.1 hq with rfl | hq
          · exact List.mem_cons_of_mem _ (List.mem_cons_self ..)
          · rw [List.mem_singleton] at hq
            subst hq
            exact List.mem_cons_self ..)⟩
        clear HS2 hil
        go_wp2
        go_loopw [9, 10, 11, 12, 13, 78] (fun _ _ _ _ _ s78 wr => ∃ m : Nat, m ≤ 3 ∧ s78 = .int .i64 m ∧ Box (WA w wr p (tsS m) (goneT (gW f i) (tsS m)) B (wantL f i (tsS m)) [(Bt, .cells (rowV .i64 tsL) 3 (0, 0))])) (fun _ _ _ _ _ s78 _ => 3 - (intOf s78).toNat)
        case atStart => exact ⟨0, by omega, rfl, HS⟩
        case round =>
          clear HS
          obtain ⟨m, hm, rfl, HS⟩ := hrel
          by_cases hm3 : m < 3
          · have hmi : (m : Int) < 3 := by omega
            obtain ⟨e1, e2, e3⟩ := ts_step hm3
            have cm := (cell_blk (HS.out.blk (List.mem_cons_of_mem _ (List.mem_cons_self ..))) m).trans (rowV_get (show m < tsL.length from hm3))
            obtain ⟨T, hT⟩ : ∃ T, tsS (m + 1) = T := ⟨_, rfl⟩
            obtain ⟨S, hS⟩ : ∃ S, tsS m = S := ⟨_, rfl⟩
            rw [hT] at e1 e2 e3
            rw [hS] at e2 HS
            rw [e1] at cm
            have HT := Box.mk (And.intro hT hS)
            clear e1 hT hS
            have HR := Box.mk (ws_go3 w _ p S _ _ HS.out T (by omega) (by omega))
            have hBl := HS.out.lt (List.mem_cons_self ..)
            simp only at hBl
            go_upto_block 4 with (go_at_call 11; (with_reducible refine HR.out.mono ?_); rintro e w8 ⟨va, out, vc, Y, rfl, hgo, hs, hY, hrow⟩; rw [gone_gone (Nat.le_of_lt e2)] at hs; have HS := Box.mk hs; have HROW := Box.mk hrow; have HGO := Box.mk hgo; have HY : Box (∀ q ∈ (Bt, Obj.cells (rowV .i64 tsL) 3 (0, 0)) :: Y, q.1 ≠ B) := Box.mk (fun q hq => by rcases List.mem_cons.1 hq with rfl | hq; exact Nat.ne_of_gt hBBt; have := hY q hq; omega); clear hs hgo hrow hY)
            clear HR cm hBl
            obtain ⟨L, hL⟩ : ∃ L, out.length = L := ⟨_, rfl⟩
            have HL := Box.mk hL
            have hL1000 : L ≤ 1000 := by rw [← hL]; exact got_len HGO.out (fun i' a h => by have := (gW_some.1 (goneT_some.1 h).1).1; omega)
            rw [hL]
            clear hL
            have HS0 : Box (WA w w8 p T (goneT (gW f i) T) B (wantK f i S out 0) ((Bt, .cells (rowV .i64 tsL) 3 (0, 0)) :: Y)) := ⟨by rw [wantK_zero]; exact HS.out⟩
            clear HS
            go_wp2
            go_loopw [12] (fun s12 wr => ∃ k : Nat, k ≤ L ∧ s12 = .int .i64 k ∧ Box (WA w wr p T (goneT (gW f i) T) B (wantK f i S out k) ((Bt, .cells (rowV .i64 tsL) 3 (0, 0)) :: Y))) (fun s12 _ => L - (intOf s12).toNat)
            case atStart => exact ⟨0, by omega, rfl, HS0⟩
            case round =>
              clear HS0
              obtain ⟨k, hkL, rfl, HS⟩ := hrel
              by_cases hk : k < L
              · have hki : (k : Int) < L := by omega
                have hko : k < out.length := by rw [HL.out]; exact hk
                obtain ⟨b, cur, hva, hX, hcu⟩ := HROW.out k hko
                have hmem := (out_mem HGO.out out[k]).1 (List.getElem_mem hko)
                have hfr := out_fresh HGO.out hko
                have hnx := wantK_next f (n := i) (s := S) hko
                have d1 := (cell_blk (HS.out.blk (List.mem_cons_of_mem _ (List.mem_cons_of_mem _ hX))) k).trans hcu
                obtain ⟨j, hj⟩ : ∃ j, out[k] = j := ⟨_, rfl⟩
                rw [hj] at hmem hfr hnx d1
                have hj60 : j < 60 := by omega
                have d2 := WA.cell HS.out (i := j) (by rw [wantK_len]; exact hj60)
                rw [wantK_get f i S out k hj60, if_pos ⟨⟨hmem.1, hmem.2.1⟩, hfr⟩] at d2
                obtain ⟨W, hW⟩ : ∃ W, fW f j = W := ⟨_, rfl⟩
                rw [hW] at d2 hmem
                have e2' := WA.free HS.out j
                have hji : (j : Int) < i := by omega
                have hjn : ¬ (i : Int) ≤ j := by omega
                have hj0 : ¬ (j : Int) < 0 := by omega
                have hWz : ((W : Int) == 0) = false := beq_eq_false_iff_ne.2 (by omega)
                have hWT : ¬ (T : Int) < W := by omega
                have hj6 : (j : Int) < 60 := by omega
                have HNX := Box.mk hnx
                rw [hva]
                clear hX hcu hmem hfr hj hW hnx hko
                go_wp2
                have HS2 := WA.set HS.out hBs HY.out j 0
                rw [HNX.out] at HS2
                have HS := Box.mk HS2
                clear HS2 d1 d2 e2'
                go_roundw
                case rel => exact ⟨k + 1, by omega, by go_num, HS⟩
                case measure => simp [intOf] <;> omega
              · obtain rfl : k = L := by omega
                have hki : ¬ (k : Int) < k := by omega
                have hdn := wantK_done HGO.out (Nat.le_of_lt e2)
                rw [HL.out] at hdn
                rw [hdn] at HS
                clear hdn
                rename World => w9
                go_upto_block 6 with fail
                go_wp2
                go_loop [13] (fun s13 => ∃ j : Nat, j ≤ i ∧ s13 = .int .i64 j) (fun s13 => i - (intOf s13).toNat)
                case atStart => exact ⟨0, by omega, rfl⟩
                case round =>
                  obtain ⟨j, hji, rfl⟩ := hrel
                  by_cases hj : j < i
                  · have hji : (j : Int) < i := by omega
                    have hj60 : j < 60 := by omega
                    have hj6 : (j : Int) < 60 := by omega
                    have d2 := WA.cell HS.out (i := j) (by rw [wantL_len]; exact hj60)
                    rw [wantL_get f i T hj60] at d2
                    by_cases hW : T < fW f j
                    · rw [if_pos ⟨hj, hW⟩] at d2
                      obtain ⟨W, hW2⟩ : ∃ W, fW f j = W := ⟨_, rfl⟩
                      rw [hW2] at d2 hW
                      have h1 : (0 : Int) < W := by omega
                      have h2 : ¬ (W : Int) ≤ T := by omega
                      clear hW2 hW
                      go_wp2
                      go_round
                      case rel => exact ⟨j + 1, by omega, by go_num⟩
                      case measure => simp [intOf] <;> omega
                    · rw [if_neg (fun h => hW h.2)] at d2
                      clear hW
                      go_wp2
                      go_round
                      case rel => exact ⟨j + 1, by omega, by go_num⟩
                      case measure => simp [intOf] <;> omega
                  · have hji : ¬ (j : Int) < i := by omega
                    have HS3 : Box (WA w w9 p (tsS (m + 1)) (goneT (gW f i) (tsS (m + 1))) B (wantL f i (tsS (m + 1))) [(Bt, .cells (rowV .i64 tsL) 3 (0, 0))]) := ⟨by
                      rw [HT.out.1]
                      exact HS.out.sub (fun q hq => by
                        rcases List.mem_cons.1 hq with rfl | hq
                        · exact List.mem_cons_self ..
                        · rw [List.mem_singleton] at hq
                          subst hq
                          exact List.mem_cons_of_mem _ (List.mem_cons_self ..))⟩
                    go_wp2
                    go_roundw
                    case rel => exact ⟨m + 1, by omega, by go_num, HS3⟩
                    case measure => simp [intOf] <;> omega
          · obtain rfl : m = 3 := by omega
            have HLN := ws_len w _ p _ _ _ HS.out
            rw [show tsS 3 = 70000 from rfl, gone_none (fun i hi => fW_le (HU.out i hi))] at HLN
            have HLN := Box.mk HLN
            have HR := ws_set w _ p _ _ _ HS.out 0 70001 (kwf_of (by decide) (by decide)) (by decide) 0 _ (setC_zero.2 (by decide)) rfl
            have HR := Box.mk HR
            go_wp2_with (first
              | (go_at_call 13; (with_reducible refine HLN.out.mono ?_); rintro e w9 ⟨rfl, rfl⟩)
              | (go_at_call 10; refine HR.out.mono ?_; rintro e w9 ⟨rfl, hs⟩; have HS := Box.mk hs; clear hs))
            go_ret
            exact ⟨rfl, HS.out.below⟩

/-! The row's step. -/
theorem own : ownKnob Try.prog.godebug = none := by kernel_rfl
theorem laidOut : laidOutB Try.prog = true := by kernel_rfl

set_option maxRecDepth 100000 in
theorem lifted (os : Os) (started : os.Started) (H : Type) (enc : TypeId × Value → H) :
    ReturnsInHanded {} Try.checked os 6 .any (Rows.wheelAgainSpec.pre6 enc Try.prog Try.f6 Rows.wheelAgainRow.domain false) (Rows.wheelAgainSpec.post enc Try.prog Try.f6 false true false false) := by
  refine returnsInHanded_of_change (C := Try.checked) own started (by kernel_rfl) Try.func6
    (ChangeSpec.witness6 (enc := enc) (C := Try.checked) false ⟨#[], #[.slice none 0 0], []⟩ 8 (by kernel_rfl) (by kernel_rfl) (by kernel_rfl) (by kernel_rfl)) ?_
  intro W base args ds gs before hval0 hW hcnd _
  have hval : ∀ (j : Nat) t v, Try.f6.params[j]? = some t → args[j]? = some v → Value.okWide Try.prog W .any base t v := hval0
  have hW' := hW
  obtain ⟨p, q, hA0, hV, rfl, hfz, hnd⟩ := hW
  have hA : DataW.TrodAll enc Try.prog W 0 (fun _ => true) true Try.f6.params.toList args.toList ds p := hA0
  rw [Try.params6] at hA hval
  obtain ⟨v0, vs0, d0, ds0, p0, q0, hargs, rfl, rfl, h0, r0⟩ := trodAll_cons hA
  obtain ⟨rfl, rfl, rfl⟩ := trodAll_nil r0
  obtain rfl : args = #[v0] := by cases args; simp_all
  obtain ⟨rfl, rfl⟩ := trodVars_none hV
  obtain ⟨a0, len0, cap0, rfl⟩ := okWide_slice Try.underlying40 (hval 0 40 v0 rfl rfl)
  have k0 := h0
  have lt0 : ∀ x ∈ p0, x.block < W.heap.size := by obtain ⟨m, hm⟩ := k0; exact DataW.trod_lt m _ _ _ hm
  obtain ⟨z0, w0⟩ := open_arrays (k := .u16) (m := 2) Try.underlying40 Try.underlying41 Try.underlying37 (by kernel_rfl) (by kernel_rfl) (by decide) h0
  clear hA0 hval0
  refine (walk a0 len0 cap0 z0 W w0).mono fun e W' ⟨he, bel⟩ => ?_
  subst he
  exact ⟨_, rfl, _, _, _, [], _, [], hW', trodAll_mk1 (shut_bool Try.underlying4 _), (trodAll_cons_mk (Below.trod laidOut (by kernel_rfl) (of_decide_eq_true (by kernel_rfl)) k0 bel lt0) trodAll_mk0), rfl, bel.frame _, fun h => by cases h⟩

theorem over : Rows.wheelAgainRow.holds Try.pinned (OpenSpec.ofChange Rows.wheelAgainSpec) :=
  OpenClaim.holds_of_wide 6 Try.f6 rfl rfl rfl rfl rfl rfl rfl ⟨rfl, rfl, rfl, rfl, rfl⟩ rfl rfl rfl rfl rfl (by kernel_rfl) Try.func6 (by kernel_rfl)
    (of_decide_eq_true (by kernel_rfl)) (by unfold Func.isWrapper; first | (rw [if_pos (by decide +kernel)]; kernel_rfl) | (rw [if_neg (by decide +kernel)]; exact ⟨rfl, rfl⟩))
    (fun os started H enc _ => lifted os started H enc)

/-- The statement. -/
theorem proved : Rows.WheelAgainSaid := over
#print axioms proved

end Go.Proofs.Ythlaebleaooeiaa.wheelAgain
