/-
  LifeOnce: whatever is answered, late, twice, or never, and called off: each request that was opened has just one outcome, told when its abort time comes, at the latest. No condition but the statement's.
-/
import Derived.Test.YtbodnmcaipakcaaLiM
import Derived.Test.YtbodnmcaipakcaaRowV
import Derived.Test.YtbodnmcaipakcaaArgsS
import Derived.Test.YtbodnmcaipakcaaRows
namespace Go.Proofs.Ytbodnmcaipakcaa.lifeOnce
open Go.ChangeShapes Go.WideShapes Go.ChangeAt Go.RowKit Go.Proofs.Ytbodnmcaipakcaa

/-- What the law keeps of who is open. -/
def Op (c now : Nat) (o : List Int) (d : Int → Option Nat) : Prop := o.length = 20 ∧ (∀ x : Nat, x < 20 → zv o x = (((d x).getD 0 : Nat) : Int)) ∧ ∀ x a, d x = some a → 0 ≤ x ∧ x < 20 ∧ now + c ≤ a ∧ a ≤ now + 61
/-- The outcomes that a step tells: of whom, and when. -/
theorem rows_of {c now : Nat} {d0 d' : Int → Option Nat} {fs : List FateM} {l : List Int} (h : (fs = [] ∧ d' = d0) ∨ ∃ f, fs = [f] ∧ d' = at1 d0 f.id none ∧ (d0 f.id).isSome = true ∧ ¬ (f.kind = 2 ∧ f.why = 1)) (hb : ∀ x a, d0 x = some a → now + c ≤ a) (hl : LateL d' (now + c) l) :
    ((fs ++ timeF l).map FateM.id).Nodup ∧ (∀ f ∈ fs ++ timeF l, ∃ a, d0 f.id = some a ∧ now + c ≤ a ∧ (f.kind = 2 → f.why = 1 → now + c = a)) ∧ ∀ x, lateD d' (now + c) x = if x ∈ (fs ++ timeF l).map FateM.id then none else d0 x := by
  have hid : (timeF l).map FateM.id = l := by
    unfold timeF
    rw [List.map_map]
    exact List.map_id'' (fun _ => rfl) l
  have htf : ∀ f ∈ timeF l, f.id ∈ l := fun f hf => by
    rw [← hid]; exact List.mem_map.2 ⟨f, hf, rfl⟩
  have hlate : ∀ (e : Int → Option Nat) (x : Int), lateD e (now + c) x = if (∃ a, e x = some a ∧ a ≤ now + c) then none else e x := fun e x => by
    unfold lateD
    cases he : e x with
    | none => simp
    | some a =>
      rw [Option.bind_some]
      by_cases ha : a ≤ now + c
      · rw [if_pos ha, if_pos ⟨a, rfl, ha⟩]
      · rw [if_neg ha, if_neg (by rintro ⟨b, h1, h2⟩; injection h1 with h1; omega)]
  rcases h with ⟨rfl, rfl⟩ | ⟨f, rfl, rfl, hs, hk⟩
  · rw [List.nil_append, hid]
    refine ⟨late_nodup hl, fun f hf => ?_, fun x => ?_⟩
    · obtain ⟨a, h1, h2⟩ := (hl.2 _).1 (htf f hf)
      have := hb _ a h1
      exact ⟨a, h1, this, fun _ _ => by omega⟩
    · rw [hlate]
      by_cases hx : x ∈ l
      · rw [if_pos hx, if_pos ((hl.2 x).1 hx)]
      · rw [if_neg hx, if_neg (fun h => hx ((hl.2 x).2 h))]
  · have hnl : f.id ∉ l := fun h => by
      obtain ⟨a, h1, _⟩ := (hl.2 _).1 h
      rw [at1_same] at h1; cases h1
    rw [List.map_append, hid]
    refine ⟨List.nodup_cons.2 ⟨hnl, late_nodup hl⟩, fun g hg => ?_, fun x => ?_⟩
    · rcases List.mem_append.1 hg with hg | hg
      · rw [List.mem_singleton] at hg
        subst hg
        obtain ⟨a, ha⟩ := Option.isSome_iff_exists.1 hs
        exact ⟨a, ha, hb _ a ha, fun h1 h2 => absurd ⟨h1, h2⟩ hk⟩
      · have hgl := htf g hg
        obtain ⟨a, h1, h2⟩ := (hl.2 _).1 hgl
        rw [at1_ne _ _ (fun e => hnl (by rw [← e]; exact hgl))] at h1
        have := hb _ a h1
        exact ⟨a, h1, this, fun _ _ => by omega⟩
    · rw [hlate, List.map_cons, List.map_nil, List.cons_append, List.nil_append]
      by_cases e : x = f.id
      · subst e
        rw [if_pos (List.mem_cons_self ..), at1_same]
        simp
      · rw [at1_ne _ _ e]
        by_cases hx : x ∈ l
        · have := (hl.2 x).1 hx
          rw [at1_ne _ _ e] at this
          rw [if_pos this, if_pos (List.mem_cons_of_mem _ hx)]
        · rw [if_neg (fun h => hx ((hl.2 x).2 (by rw [at1_ne _ _ e]; exact h))), if_neg (by rw [List.mem_cons]; rintro (h | h); exact e h; exact hx h)]
theorem zv_in {o : List Int} {x : Nat} (h : x < o.length) : zv o x = o[x] := by unfold zv; exact getD_in h
theorem zv_set' {o : List Int} {x y : Nat} (v : Int) (hy : y < o.length) : zv (o.set x v) y = if x = y then v else zv o y := by
  rw [zv_in (by rw [List.length_set]; exact hy), List.getElem_set, zv_in hy]
section
variable {c now : Nat} {o : List Int} {d : Int → Option Nat}
theorem Op.start (c : Nat) : Op c 0 (List.replicate 20 0) (fun _ => none) := ⟨by simp, fun x hx => by rw [zv_in (by simpa using hx), List.getElem_replicate]; rfl, fun x a h => by cases h⟩
theorem Op.tick (h : Op c now o d) (hb : ∀ x a, d x = some a → now + c < a) : Op c (now + 1) o d := ⟨h.1, h.2.1, fun x a hx => by
  have h1 := h.2.2 x a hx
  have h2 := hb x a hx
  omega⟩
theorem Op.set {x : Nat} (h : Op c now o d) (hx : x < 20) (v : Option Nat) (hv : ∀ a, v = some a → now + c ≤ a ∧ a ≤ now + 61) : Op c now (o.set x ((v.getD 0 : Nat) : Int)) (at1 d x v) := by
  refine ⟨by rw [List.length_set]; exact h.1, fun y hy => ?_, fun y a hy => ?_⟩
  · rw [zv_set' _ (by rw [h.1]; exact hy)]
    by_cases e : x = y
    · subst e; rw [if_pos rfl, at1_same]
    · rw [if_neg e, at1_ne _ _ (by omega)]; exact h.2.1 y hy
  · by_cases e : y = x
    · subst e
      rw [at1_same] at hy
      have := hv a hy
      omega
    · rw [at1_ne _ _ e] at hy; exact h.2.2 y a hy
theorem Op.none {x : Nat} (h : Op c now o d) (hc : 1 ≤ c) (hx : x < 20) : zv o x = 0 ↔ d x = none := by
  rw [h.2.1 x hx]
  cases hd : d x with
  | none => simp
  | some a =>
    have := h.2.2 x a hd
    simp
    omega
theorem Op.some {x : Nat} {a : Nat} (h : Op c now o d) (hx : x < 20) (hd : d x = some a) : zv o x = a := by
  rw [h.2.1 x hx, hd]; rfl
end
/-- Who is open as a list of numbers. -/
def opn (d : Int → Option Nat) : List Nat := (List.range 65536).filter (fun i : Nat => (d (i : Int)).isSome)
theorem opn_nodup (d : Int → Option Nat) : (opn d).Nodup := List.nodup_range.filter _
theorem opn_mem {d : Int → Option Nat} {k : Nat} : k ∈ opn d ↔ k < 65536 ∧ (d (k : Int)).isSome = true := by
  unfold opn; rw [List.mem_filter, List.mem_range]
theorem cnt_opn (d : Int → Option Nat) : cntD d = (opn d).length := rfl
theorem cnt_add {d : Int → Option Nat} {k : Nat} (hk : k ≤ 65535) (h : d k = none) (a : Nat) : cntD (at1 d k (some a)) = cntD d + 1 := by
  rw [cnt_opn, cnt_opn]
  have hn : (k :: opn d).Nodup := List.nodup_cons.2 ⟨fun hm => (by have := (opn_mem.1 hm).2; rw [h] at this; cases this), opn_nodup d⟩
  have := len_eq_of_mem (opn_nodup (at1 d k (some a))) hn (fun x => by
    rw [opn_mem, List.mem_cons, opn_mem]
    by_cases e : x = k
    · subst e
      rw [at1_same]
      simp; omega
    · rw [at1_ne _ _ (by omega)]
      simp [e])
  simpa using this
theorem cnt_del {d : Int → Option Nat} {k : Nat} (hk : k ≤ 65535) (h : (d k).isSome = true) : cntD (at1 d k none) + 1 = cntD d := by
  obtain ⟨a, ha⟩ := Option.isSome_iff_exists.1 h
  rw [← cnt_add hk (at1_same d k none) a]
  congr 1
  funext x
  by_cases e : x = k
  · subst e; rw [at1_same, ha]
  · rw [at1_ne _ _ e, at1_ne _ _ e]
theorem at1_none {d : Int → Option Nat} {y : Int} (h : d y = none) : at1 d y none = d := by
  funext x
  by_cases e : x = y
  · subst e; rw [at1_same, h]
  · rw [at1_ne _ _ e]
theorem ans_some {d : Int → Option Nat} {id st : Int} (fs : List FateM) (bad : Bool) (h1 : 0 ≤ st) (h2 : st ≤ 255) (h : (d id).isSome = true) : ansC d id st = 0 ∧ ansD d id st = at1 d id none ∧ ∃ f, ansF d fs id st bad = fs ++ [f] := by
  refine ⟨?_, ?_, ?_⟩
  · unfold ansC outD; rw [if_neg (by omega), h, if_pos rfl]
  · unfold ansD; rw [if_neg (by omega)]
  · unfold ansF fsO
    rw [if_neg (by omega)]
    cases bad with
    | true => exact ⟨⟨id, 2, 2⟩, by simp [h]⟩
    | false => exact ⟨⟨id, 1, st⟩, by simp [h]⟩
theorem ans_none {d : Int → Option Nat} {id st : Int} (fs : List FateM) (bad : Bool) (h1 : 0 ≤ st) (h2 : st ≤ 255) (h : d id = none) : ansC d id st = 6 ∧ ansD d id st = d ∧ ansF d fs id st bad = fs := by
  refine ⟨?_, ?_, ?_⟩
  · unfold ansC outD; rw [if_neg (by omega), h]; simp
  · unfold ansD; rw [if_neg (by omega)]; exact at1_none h
  · unfold ansF fsO
    rw [if_neg (by omega)]
    cases bad <;> simp [h]
theorem Op.cnt {c now : Nat} {o : List Int} {d : Int → Option Nat} (h : Op c now o d) : cntD d ≤ 20 := by
  have := cntD_le (d := d) ((List.range 20).map (fun i : Nat => (i : Int))) (fun x a hx => by
    have h3 := h.2.2 x a hx
    exact List.mem_map.2 ⟨x.toNat, List.mem_range.2 (by omega), by omega⟩)
  simpa using this
theorem cnt_none : cntD (fun _ => none) = 0 := cntA0
theorem all_late {c now : Nat} {o : List Int} {d : Int → Option Nat} {l : List Int} (h : Op c now o d) (hl : LateL d (now + 1000 + c) l) : l.length = cntD d ∧ lateD d (now + 1000 + c) = fun _ => none := by
  constructor
  · have e2 : ((opn d).map (fun k : Nat => (k : Int))).length = (opn d).length := by simp
    rw [cnt_opn, ← e2]
    refine len_eq_of_mem (late_nodup hl) ?_ fun x => ?_
    · rw [List.nodup_iff_pairwise_ne, List.pairwise_map]
      exact (List.nodup_iff_pairwise_ne.1 (opn_nodup d)).imp (fun h => by omega)
    · rw [hl.2, List.mem_map]
      constructor
      · rintro ⟨a, h1, h2⟩
        have := h.2.2 x a h1
        have ex : ((x.toNat : Nat) : Int) = x := by omega
        exact ⟨x.toNat, opn_mem.2 ⟨by omega, by rw [ex, h1]; rfl⟩, ex⟩
      · rintro ⟨k, hk, rfl⟩
        obtain ⟨a, ha⟩ := Option.isSome_iff_exists.1 (opn_mem.1 hk).2
        exact ⟨a, ha, by have := h.2.2 _ a ha; omega⟩
  · funext x
    refine Option.ext fun a => ?_
    rw [lateD_some]
    constructor
    · rintro ⟨h1, h2⟩; have := h.2.2 x a h1; omega
    · intro h; cases h
theorem timeF_len (l : List Int) : ([] ++ timeF l).length = l.length := by simp [timeF]
theorem ls_swap {w0 w : World} {p cost now : Nat} {d : Int → Option Nat} {fs : List FateM} {a b : Nat × Obj} (h : LS w0 w p cost now d fs [a, b]) : LS w0 w p cost now d fs [b, a] :=
  h.sub (fun q hq => by simp only [List.mem_cons, List.not_mem_nil, or_false] at hq ⊢; exact hq.symm)
/-- An answer in a step: nothing, or one outcome. -/
theorem ans_once (d : Int → Option Nat) (k : Nat) (b : Bool) : (ansF d [] k 5 b = [] ∧ ansD d k 5 = d) ∨ ∃ f, ansF d [] k 5 b = [f] ∧ ansD d k 5 = at1 d f.id none ∧ (d f.id).isSome = true ∧ ¬ (f.kind = 2 ∧ f.why = 1) := by
  cases hd : d (k : Int) with
  | none =>
    obtain ⟨_, h2, h3⟩ := ans_none (d := d) (id := k) (st := 5) [] b (by decide) (by decide) hd
    exact .inl ⟨h3, h2⟩
  | some a =>
    right
    unfold ansF ansD fsO
    rw [if_neg (by decide : ¬ ((5 : Int) < 0 ∨ (255 : Int) < 5)), if_neg (by decide : ¬ ((5 : Int) < 0 ∨ (255 : Int) < 5))]
    cases b with
    | true => exact ⟨⟨k, 2, 2⟩, by show (if (d (k : Int)).isSome = true then _ else _) = _; rw [hd]; rfl, rfl, by show (d (k : Int)).isSome = true; rw [hd]; rfl, fun h => by cases h.2⟩
    | false => exact ⟨⟨k, 1, 5⟩, by show (if (d (k : Int)).isSome = true then _ else _) = _; rw [hd]; rfl, rfl, by show (d (k : Int)).isSome = true; rw [hd]; rfl, fun h => by cases h.1⟩
theorem can_once (d : Int → Option Nat) (k : Nat) : (fsO d [] ⟨k, 2, 3⟩ = [] ∧ at1 d (k : Int) none = d) ∨ ∃ f, fsO d [] ⟨k, 2, 3⟩ = [f] ∧ at1 d (k : Int) none = at1 d f.id none ∧ (d f.id).isSome = true ∧ ¬ (f.kind = 2 ∧ f.why = 1) := by
  cases hd : d (k : Int) with
  | none => exact .inl ⟨by simp [fsO, hd], at1_none hd⟩
  | some a => exact .inr ⟨⟨k, 2, 3⟩, by simp [fsO, hd], rfl, by simp [hd], by simp⟩

theorem Try.infoU64 : (Try.prog.info? 28).map (fun i => (i.zero, i.size, i.bytes)) = some (some (.int .u64 0), 1, 8) := by kernel_rfl
theorem makeU64s (n : Nat) (hn : n ≤ 1000000) (w : World) : (Instr.makeSlice 41 (.int .i64 (n : Int)) (.int .i64 (n : Int))).run Try.prog w = .ok (.slice (some ⟨w.heap.size, 0, none⟩) n n) (w.alloc (.cells (rowV .u64 (List.replicate n 0)) 28)) := by
  obtain ⟨i, hi, hz0, hz1, hz2⟩ := info_parts Try.infoU64
  exact make_row Try.underlying41 hi hz0 hz1 hz2 n hn w
set_option maxHeartbeats 16000000 in
set_option maxRecDepth 100000 in
theorem walkN (cs : Nat) (a0 : Option Addr) (n cap0 : Nat) (z : Nat → Nat → Int) (w : World) (hcs : cs ≤ 255) (g0 : ArgStructs [.i64, .i64, .u64, .i64] w a0 n z) :
    Calls Try.prog 5 #[.int .u8 cs, .slice a0 n cap0] w fun e w' => e = .returned (.bool true) ∧ Below w.heap.size w w' := by
  have hn63 := g0.1
  have HA := Box.mk g0
  clear g0
  obtain ⟨r, hr⟩ : ∃ r : Nat, (cs : Int) % 20 = r := ⟨cs % 20, by omega⟩
  have hr20 : r < 20 := by omega
  obtain ⟨c, hc⟩ : ∃ c, 1 + r = c := ⟨_, rfl⟩
  have hci : (1 : Int) + (r : Int) = c := by omega
  have hc2 : 1 ≤ c ∧ c ≤ 20 := by omega
  have HNW := Box.mk (fun w1 (hb : Below w.heap.size w w1) => ls_new c w1 (by omega) w hb [] (fun q hq => by cases hq))
  have HMK := Box.mk (fun w => makeU64s 20 (by omega) w)
  clear hc
  go_enter Try.func5, Try.ntmps5
  go_upto_region 3 with (go_at_call 9; refine (awake19_any _).mono ?_; rintro e w1 ⟨rfl, hb1⟩; have HB1 := Box.mk hb1; clear hb1)
  go_upto_region 7 with (go_at_call 10; refine (HNW.out _ HB1.out).mono ?_; rintro e w2 ⟨p, rfl, hs⟩; have HS := Box.mk hs; clear hs)
  clear HNW HB1 hci
  obtain ⟨Bo, hBo⟩ : ∃ Bo, w2.heap.size = Bo := ⟨_, rfl⟩
  have hmk := HMK.out w2
  have HS2 := Box.mk (HS.out.alloc (.cells (rowV .u64 (List.replicate 20 0)) 28 (0, 0)) Bo hBo)
  have hge : w.heap.size ≤ Bo := by have := HS.out.below.size; omega
  have hmk2 : (Instr.makeSlice 41 (.int .i64 20) (.int .i64 20)).run Try.prog w2 = .ok (.slice (some ⟨Bo, 0, none⟩) 20 20) (w2.alloc (.cells (rowV .u64 (List.replicate 20 0)) 28)) := by rw [← hBo]; exact hmk
  clear hmk hBo HMK HS
  have HOP := Box.mk (Op.start c)
  generalize List.replicate 20 (0 : Int) = o0 at hmk2 HS2 HOP
  go_upto_block 0 with fail
  generalize w2.alloc (.cells (rowV .u64 o0) 28) = w3 at HS2 ⊢
  clear hmk2
  have HCN : Box (cntD (fun _ => none) = 0) := ⟨cntA0⟩
  go_wp2
  go_loopw [8, 10, 11, 12, 13, 14, 15, 16, 17, 18, 19, 20] (fun s8 s10 s11 _ _ _ _ _ _ _ _ _ wr => ∃ (i now nn : Nat) (d : Int → Option Nat) (o : List Int), i ≤ n ∧ i ≤ 150 ∧ now ≤ i ∧ s11 = .int .i64 i ∧ s8 = .int .u64 now ∧ s10 = .int .i64 nn ∧ Box (cntD d = nn) ∧ Box (Op c now o d) ∧ Box (LS w wr p c now d [] [(Bo, .cells (rowV .u64 o) 28 (0, 0))])) (fun _ _ s11 _ _ _ _ _ _ _ _ _ _ => n - (intOf s11).toNat)
  case atStart => exact ⟨0, 0, 0, _, _, by omega, by omega, by omega, rfl, rfl, rfl, HCN, HOP, HS2⟩
  case round =>
    clear HS2 HOP HCN
    obtain ⟨i, now, nn, d, o, hin, hi150, hnow, rfl, rfl, rfl, HCN, HOP, HS⟩ := hrel
    by_cases hgo : i < n ∧ i < 150
    · obtain ⟨hlt, hlt2⟩ := hgo
      obtain ⟨b, off, rfl, hbl, hcell⟩ := HA.out.2.2 (by omega)
      have c0 := (HS.out.below.cell (p := ⟨b, off + (i * 4 + 0), none⟩) hbl).trans (hcell i hlt 0 .i64 rfl)
      have c1 := (HS.out.below.cell (p := ⟨b, off + (i * 4 + 1), none⟩) hbl).trans (hcell i hlt 1 .i64 rfl)
      have c2 := (HS.out.below.cell (p := ⟨b, off + (i * 4 + 2), none⟩) hbl).trans (hcell i hlt 2 .u64 rfl)
      have c3 := (HS.out.below.cell (p := ⟨b, off + (i * 4 + 3), none⟩) hbl).trans (hcell i hlt 3 .i64 rfl)
      simp only [← Nat.add_assoc, Nat.add_zero] at c0 c1 c2 c3
      have hu := HA.out.2.1 i hlt 2 .u64 rfl
      simp [Lit.wf, IntKind.min, IntKind.max, IntKind.signed, IntKind.bits] at hu
      obtain ⟨u, hun⟩ : ∃ u : Nat, z i 2 = u := ⟨(z i 2).toNat, by omega⟩
      rw [hun] at c2 hu
      have hu64 : u ≤ 18446744073709551615 := by omega
      generalize z i 0 = kd at c0
      generalize z i 1 = x at c1
      generalize z i 3 = st at c3
      clear hcell hun hu
      go_upto_region 14 with fail
      obtain ⟨Bd, hBd⟩ : ∃ Bd, wr.heap.size = Bd := ⟨_, rfl⟩
      have HS2 := HS.out.alloc (.cells #[.int .i64 kd, .int .i64 x, .int .u64 u, .int .i64 st] 43 (0, 0)) Bd hBd
      have hbd2 : Bo < Bd := by have := lt_blk (HS.out.blk (List.mem_cons_self ..)); simp only at this; omega
      generalize hV : wr.alloc (.cells #[.int .i64 kd, .int .i64 x, .int .u64 u, .int .i64 st] 43) = V at HS2 ⊢
      rw [hBd]
      clear c0 c1 c2 c3 HS hBd hV hbl
      have HS := Box.mk HS2
      clear HS2
      have d0 : World.cell? V ⟨Bd, 0, none⟩ = some (.int .i64 kd) := (cell_blk (HS.out.blk (List.mem_cons_self ..)) 0).trans rfl
      have d1 : World.cell? V ⟨Bd, 1, none⟩ = some (.int .i64 x) := (cell_blk (HS.out.blk (List.mem_cons_self ..)) 1).trans rfl
      have d2 : World.cell? V ⟨Bd, 2, none⟩ = some (.int .u64 u) := (cell_blk (HS.out.blk (List.mem_cons_self ..)) 2).trans rfl
      obtain ⟨y, hy⟩ : ∃ y, x.tmod 20 = y := ⟨_, rfl⟩
      have hyb : -19 ≤ y ∧ y ≤ 19 := by
        have h1 := Int.tmod_lt_of_pos x (show (0 : Int) < 20 by decide)
        have h2 := Int.tmod_lt_of_pos (-x) (show (0 : Int) < 20 by decide)
        rw [Int.neg_tmod] at h2
        omega
      go_upto_if 59 with fail
      go_cut [13] (fun s13 wx => ∃ k : Nat, k < 20 ∧ s13 = .int .i64 k ∧ wx = V)
      case first =>
        by_cases hneg : y < 0
        · go_wp2
          go_meet
          exact ⟨(-y).toNat, by omega, by go_num, rfl⟩
        · go_wp2
          go_meet
          exact ⟨y.toNat, by omega, by go_num, rfl⟩
      case rest =>
        obtain ⟨k, hk20, rfl, rfl⟩ := hcut
        rename World => V
        clear hy hyb
        have hk20i : (k : Int) < 20 := by omega
        have hol := HOP.out.1
        have hok := HOP.out.2.1 k hk20
        have hko : (rowV .u64 o)[k]? = some (.int .u64 (((d k).getD 0 : Nat) : Int)) := by rw [rowV_get (by rw [hol]; exact hk20), hok]
        have ck : World.cell? V ⟨Bo, k, none⟩ = some (.int .u64 (((d k).getD 0 : Nat) : Int)) := (cell_blk (HS.out.blk (List.mem_cons_of_mem _ (List.mem_cons_self ..))) k).trans hko
        clear hol hok hko
        go_upto_block 2 with fail
        have HTK := Box.mk (fun (hb : ∀ x a, d x = some a → now + c < a) => HOP.out.tick hb)
        have HFC := Box.mk HS.out.facts
        have hbnd : cntD d ≤ 20 := HOP.out.cnt
        have hcnn := HCN.out
        go_cut [8, 10, 14, 15] (fun s8 s10 _ _ wx => ∃ (t m : Nat) (d0 d' : Int → Option Nat) (o2 : List Int) (fs : List FateM), s8 = .int .u64 t ∧ s10 = .int .i64 m ∧ now ≤ t ∧ t ≤ i + 1 ∧ Box (cntD d0 = m) ∧ Box (Op c t o2 d0) ∧ Box ((fs = [] ∧ d' = d0) ∨ ∃ f, fs = [f] ∧ d' = at1 d0 f.id none ∧ (d0 f.id).isSome = true ∧ ¬ (f.kind = 2 ∧ f.why = 1)) ∧ Box (LS w wx p c now d' fs [(Bo, .cells (rowV .u64 o2) 28 (0, 0)), (Bd, .cells #[.int .i64 kd, .int .i64 x, .int .u64 u, .int .i64 st] 43 (0, 0))]))
        case first =>
          as_aux_lemma =>
          by_cases hk0 : kd = 0
          · have e0 : (kd == 0) = true := by simp [hk0]
            obtain ⟨q, hq⟩ : ∃ q : Nat, (u : Int) % 60 = q := ⟨u % 60, by omega⟩
            have hq60 : q < 60 := by omega
            have hdd : ((now + 1 + q : Nat) : Int) = (now : Int) + 1 + (q : Int) := by omega
            clear hk0
            cases hd : d k with
            | some a =>
              rw [hd] at ck
              have ha0 : ¬ a = 0 := by have := (HOP.out.2.2 k a hd); omega
              have haz : (((Option.some a).getD 0 : Nat) : Int) = a := rfl
              rw [haz] at ck
              have hazb : ((a : Int) == 0) = false := beq_eq_false_iff_ne.2 (by omega)
              have HR := ls_open w _ p c now d [] _ HS.out k (now + 1 + q) (kwf_of (by omega) (by omega)) (by omega) 7 (by
                unfold openD
                rw [if_neg (by omega), if_neg (by omega), if_pos (by rw [hd]; rfl)])
              rw [if_neg (by omega), hdd] at HR
              have HR := Box.mk HR
              clear hd hdd haz ha0 HFC HTK hcnn hbnd
              go_wp2_with (go_at_call 11; (with_reducible refine HR.out.mono ?_); rintro e w3 ⟨rfl, hs⟩; have ck : World.cell? w3 ⟨Bo, k, none⟩ = some (.int .u64 a) := (cell_blk (hs.blk (List.mem_cons_of_mem _ (List.mem_cons_self ..))) k).trans ((cell_blk (HS.out.blk (List.mem_cons_of_mem _ (List.mem_cons_self ..))) k).symm.trans ck); have HS := Box.mk hs; clear hs)
              go_meet
              exact ⟨now, nn, d, d, o, [], rfl, rfl, Nat.le_refl _, by omega, HCN, HOP, ⟨.inl ⟨rfl, rfl⟩⟩, ⟨(ls_swap HS.out)⟩⟩
            | none =>
              rw [hd] at ck
              have haz : (((Option.none (α := Nat)).getD 0 : Nat) : Int) = 0 := rfl
              rw [haz] at ck
              by_cases hgt : c < 1 + q
              · have hgi : (now : Int) + (c : Int) < (now : Int) + 1 + (q : Int) := by omega
                have HR := ls_open w _ p c now d [] _ HS.out k (now + 1 + q) (kwf_of (by omega) (by omega)) (by omega) 0 (openD_ok (by omega) (by omega) (by omega) hd (by omega) (by omega))
                rw [if_pos rfl, hdd] at HR
                have HR := Box.mk HR
                have hca := cnt_add (d := d) (k := k) (by omega) hd (now + 1 + q)
                have HCA : Box (cntD (at1 d k (some (now + 1 + q))) = nn + 1) := ⟨by rw [hca, HCN.out]⟩
                have HOS : Box (Op c now (o.set k ((now : Int) + 1 + (q : Int))) (at1 d k (some (now + 1 + q)))) := ⟨by
                  have := HOP.out.set hk20 (some (now + 1 + q)) (fun a ha => by have ha := Option.some.inj ha; omega)
                  rw [Option.getD_some, hdd] at this
                  exact this⟩
                have hnn20 : nn ≤ 20 := by omega
                clear hd hdd haz HFC HTK hcnn hbnd hca
                go_wp2_with (go_at_call 11; (with_reducible refine HR.out.mono ?_); rintro e w3 ⟨rfl, hs⟩; have ck : World.cell? w3 ⟨Bo, k, none⟩ = some (.int .u64 0) := (cell_blk (hs.blk (List.mem_cons_of_mem _ (List.mem_cons_self ..))) k).trans ((cell_blk (HS.out.blk (List.mem_cons_of_mem _ (List.mem_cons_self ..))) k).symm.trans ck); have fk : World.frozen? w3 ⟨Bo, k, none⟩ = false := free_blk (hs.blk (List.mem_cons_of_mem _ (List.mem_cons_self ..))) k; have HS := Box.mk hs; clear hs)
                have HS4 := (ls_swap HS.out).set hge (fun q hq => by rw [List.mem_singleton] at hq; subst hq; exact Nat.ne_of_gt hbd2) k (.int .u64 ((now : Int) + 1 + (q : Int)))
                rw [rowV_set] at HS4
                go_meet
                exact ⟨now, nn + 1, _, _, _, [], rfl, by go_num, Nat.le_refl _, by omega, HCA, HOS, ⟨.inl ⟨rfl, rfl⟩⟩, ⟨HS4⟩⟩
              · have hgi : ¬ (now : Int) + (c : Int) < (now : Int) + 1 + (q : Int) := by omega
                have HR := ls_open w _ p c now d [] _ HS.out k (now + 1 + q) (kwf_of (by omega) (by omega)) (by omega) 11 (openD_den (by omega) (by omega) (by omega) hd (by omega) (by omega))
                rw [if_neg (by omega), hdd] at HR
                have HR := Box.mk HR
                clear hd hdd haz HFC HTK hcnn hbnd
                go_wp2_with (go_at_call 11; (with_reducible refine HR.out.mono ?_); rintro e w3 ⟨rfl, hs⟩; have ck : World.cell? w3 ⟨Bo, k, none⟩ = some (.int .u64 0) := (cell_blk (hs.blk (List.mem_cons_of_mem _ (List.mem_cons_self ..))) k).trans ((cell_blk (HS.out.blk (List.mem_cons_of_mem _ (List.mem_cons_self ..))) k).symm.trans ck); have HS := Box.mk hs; clear hs)
                go_meet
                exact ⟨now, nn, d, d, o, [], rfl, rfl, Nat.le_refl _, by omega, HCN, HOP, ⟨.inl ⟨rfl, rfl⟩⟩, ⟨(ls_swap HS.out)⟩⟩
          · have e0 : (kd == 0) = false := by simp [hk0]
            by_cases hk12 : kd = 1 ∨ kd = 2
            · obtain ⟨b, h1, h2⟩ : ∃ b : Bool, (kd == 1) = !b ∧ (kd == 2) = b := by
                rcases hk12 with rfl | rfl
                · exact ⟨false, rfl, rfl⟩
                · exact ⟨true, rfl, rfl⟩
              have HR := Box.mk (ls_answer w _ p c now d [] _ HS.out k 5 b (kwf_of (by omega) (by omega)) (by simp))
              have HAO := Box.mk (ans_once d k b)
              clear hk0 hk12 HFC HTK hcnn hbnd ck
              cases b with
              | false =>
                simp only [Bool.not_false] at h1
                go_wp2_with (go_at_call 12; (with_reducible refine HR.out.mono ?_); rintro e w3 ⟨rfl, hs⟩; have HS := Box.mk hs; clear hs)
                go_meet
                exact ⟨now, nn, d, _, o, _, rfl, rfl, Nat.le_refl _, by omega, HCN, HOP, HAO, ⟨(ls_swap HS.out)⟩⟩
              | true =>
                simp only [Bool.not_true] at h1
                go_wp2_with (go_at_call 12; (with_reducible refine HR.out.mono ?_); rintro e w3 ⟨rfl, hs⟩; have HS := Box.mk hs; clear hs)
                go_meet
                exact ⟨now, nn, d, _, o, _, rfl, rfl, Nat.le_refl _, by omega, HCN, HOP, HAO, ⟨(ls_swap HS.out)⟩⟩
            · have e1 : (kd == 1) = false := beq_eq_false_iff_ne.2 (fun h => hk12 (.inl h))
              have e2 : (kd == 2) = false := beq_eq_false_iff_ne.2 (fun h => hk12 (.inr h))
              by_cases hk3 : kd = 3
              · have e3 : (kd == 3) = true := by simp [hk3]
                have HR := Box.mk (ls_cancel w _ p c now d [] _ HS.out k (kwf_of (by omega) (by omega)) (by simp))
                have HAO := Box.mk (can_once d k)
                clear hk0 hk12 hk3 HFC HTK hcnn hbnd ck
                go_wp2_with (go_at_call 14; (with_reducible refine HR.out.mono ?_); rintro e w3 ⟨rfl, hs⟩; have HS := Box.mk hs; clear hs)
                go_meet
                exact ⟨now, nn, d, _, o, _, rfl, rfl, Nat.le_refl _, by omega, HCN, HOP, HAO, ⟨(ls_swap HS.out)⟩⟩
              · have e3 : (kd == 3) = false := beq_eq_false_iff_ne.2 hk3
                have HOT := Box.mk (HTK.out (fun x a h => (HFC.out.2.2.2 x a h).2.2.1))
                clear hk0 hk12 hk3 HFC HTK hcnn hbnd ck
                go_wp2
                go_meet
                exact ⟨now + 1, nn, d, d, o, [], by go_num, rfl, by omega, by omega, HCN, HOT, ⟨.inl ⟨rfl, rfl⟩⟩, ⟨(ls_swap HS.out)⟩⟩
        case rest =>
          as_aux_lemma =>
          clear HTK HFC hbnd hcnn HOP HCN HS ck d0 d1 d2
          obtain ⟨t, m, d0, d', o2, fs, rfl, rfl, ht1, ht2, HC2, HO2, HRO, HS⟩ := hcut
          have HG := Box.mk (ls_go w _ p c now d' fs _ HS.out t ht1 (by omega) (by
            rcases HRO.out with ⟨e, _⟩ | ⟨f, e, _⟩
            · rw [e]; simp
            · rw [e]; simp))
          have HRW := Box.mk (fun l (h : LateL d' (t + c) l) => rows_of HRO.out (fun x a h => (HO2.out.2.2 x a h).2.2.1) h)
          go_upto_region 33 with (go_at_call 13; (with_reducible refine HG.out.mono ?_); rintro e w3 ⟨fo, n', cc, l, Y, rfl, hl, hnn, hs, hy1, hy2, hrow⟩; have HS := Box.mk hs; have HR := Box.mk (HRW.out l hl); have HN := Box.mk hnn; have HY := Box.mk hy1; have HROW := Box.mk hrow; clear hl hnn hs hy1 hy2 hrow)
          clear HG HRW HRO
          generalize hL : fs ++ timeF l = L at HR HN HROW
          clear hL
          have HNN := Box.mk HN.out
          obtain rfl : n' = L.length := HN.out
          have HNOD := Box.mk HR.out.1
          have HOUT := Box.mk HR.out.2.1
          have HFIN := Box.mk HR.out.2.2
          have hL20 : L.length ≤ 20 := by
            have := nodup_sub_len (l := L.map FateM.id) (m := (List.range 20).map (fun i : Nat => (i : Int))) HNOD.out (fun x hx => by
              obtain ⟨f, hf, rfl⟩ := List.mem_map.1 hx
              obtain ⟨a, h1, _⟩ := HOUT.out f hf
              have h3 := HO2.out.2.2 _ a h1
              exact List.mem_map.2 ⟨f.id.toNat, List.mem_range.2 (by omega), by omega⟩)
            simpa using this
          have HSB := Box.mk (HS.out.sub (Y := (Bo, .cells (rowV .u64 o2) 28 (0, 0)) :: Y) (fun q hq => by
            rcases List.mem_cons.1 hq with rfl | h
            · exact List.mem_append_left _ (List.mem_cons_self ..)
            · exact List.mem_append_right _ h))
          have HYN : Box (∀ q ∈ Y, q.1 ≠ Bo) := ⟨fun q hq e => HY.out q hq _ (List.mem_cons_self ..) e.symm⟩
          generalize hdl : lateD d' (t + c) = dl at HSB HFIN
          clear HS HR HN HNN HY hdl
          go_upto_block 3 with fail
          go_wp2
          go_loopw [10, 18, 19] (fun s10 s18 _ wr => ∃ (j m : Nat) (o : List Int) (d : Int → Option Nat), j ≤ L.length ∧ s18 = .int .i64 j ∧ s10 = .int .i64 m ∧ Box (cntD d = m) ∧ Box (Op c t o d) ∧ Box (∀ x, d x = if x ∈ (L.take j).map FateM.id then none else d0 x) ∧ Box (LS w wr p c t dl [] ((Bo, .cells (rowV .u64 o) 28 (0, 0)) :: Y))) (fun _ s18 _ _ => L.length - (intOf s18).toNat)
          case atStart => exact ⟨0, m, o2, d0, by omega, rfl, rfl, HC2, HO2, ⟨fun x => by simp⟩, HSB⟩
          case round =>
            as_aux_lemma =>
            clear HSB HC2 HO2
            obtain ⟨j, m, o, d, hj, rfl, rfl, HC2, HO2, HD, HS⟩ := hrel
            by_cases hjl : j < L.length
            · have hjli : (j : Int) < L.length := by omega
              obtain ⟨b, cur, rfl, hmem, f0, f1, f2⟩ := HROW.out j hjl
              have HB : Box ((b, Obj.cells cur 35 (0, 0)) ∈ Y) := ⟨hmem⟩
              have f0 := (cell_blk (HS.out.blk (List.mem_cons_of_mem _ HB.out)) (j * 3)).trans f0
              have f1 := (cell_blk (HS.out.blk (List.mem_cons_of_mem _ HB.out)) (j * 3 + 1)).trans f1
              have f2 := (cell_blk (HS.out.blk (List.mem_cons_of_mem _ HB.out)) (j * 3 + 2)).trans f2
              obtain ⟨a, ha, hta, htk⟩ := HOUT.out L[j] (List.getElem_mem hjl)
              have hnin : L[j].id ∉ (L.take j).map FateM.id := fun hx => by
                obtain ⟨f, hf, e⟩ := List.mem_map.1 hx
                obtain ⟨i, hi, rfl⟩ := List.getElem_of_mem hf
                rw [List.length_take] at hi
                rw [List.getElem_take] at e
                have := (List.pairwise_iff_getElem.1 (List.nodup_iff_pairwise_ne.1 HNOD.out)) i j (by simp; omega) (by simp; exact hjl) (by omega)
                rw [List.getElem_map, List.getElem_map] at this
                exact this e
              have hdx : d L[j].id = some a := by rw [HD.out, if_neg hnin, ha]
              have htak : (L.take (j + 1)).map FateM.id = (L.take j).map FateM.id ++ [L[j].id] := by rw [List.take_succ_eq_append_getElem hjl, List.map_append]; rfl
              have hxb := HO2.out.2.2 _ a hdx
              have HD2 : Box (∀ x, at1 d L[j].id none x = if x ∈ (L.take (j + 1)).map FateM.id then none else d0 x) := ⟨fun x => by
                rw [htak]
                by_cases e : x = L[j].id
                · subst e; rw [at1_same, if_pos (by simp)]
                · rw [at1_ne _ _ e, HD.out]
                  congr 1
                  simp [e]⟩
              clear hnin htak hmem
              generalize L[j] = F at f0 f1 f2 ha htk hdx hxb HD2
              obtain ⟨x, kd2, wh⟩ := F
              simp only at f0 f1 f2 ha htk hdx hxb HD2
              obtain ⟨x, rfl⟩ : ∃ k : Nat, x = k := ⟨x.toNat, by omega⟩
              have hx20 : x < 20 := by omega
              have hz := HO2.out.some hx20 hdx
              have ck : World.cell? _ ⟨Bo, x, none⟩ = some (.int .u64 a) := (cell_blk (HS.out.blk (List.mem_cons_self ..)) x).trans (by rw [rowV_get (by rw [HO2.out.1]; exact hx20), hz])
              have fk : World.frozen? _ ⟨Bo, x, none⟩ = false := free_blk (HS.out.blk (List.mem_cons_self ..)) x
              have hcd := cnt_del (d := d) (k := x) (by omega) (by rw [hdx]; rfl)
              have hm20 : m ≤ 20 := by rw [← HC2.out]; exact HO2.out.cnt
              obtain ⟨m, rfl⟩ : ∃ k, m = k + 1 := ⟨m - 1, by have := HC2.out; omega⟩
              have HC3 : Box (cntD (at1 d (x : Int) none) = m) := ⟨by have := HC2.out; omega⟩
              have HO3 : Box (Op c t (o.set x 0) (at1 d (x : Int) none)) := ⟨HO2.out.set hx20 none (fun a h => by cases h)⟩
              have HS4 := HS.out.set hge HYN.out x (.int .u64 0)
              rw [rowV_set] at HS4
              have HS4 := Box.mk HS4
              have hx20i : (x : Int) < 20 := by omega
              have haz : ((a : Int) == 0) = false := beq_eq_false_iff_ne.2 (by omega)
              have hta2 : ¬ (a : Int) - (c : Int) < (t : Int) := by omega
              have hac : (c : Int) ≤ (a : Int) := by omega
              have hab3 : a ≤ 300 := by omega
              have HTK := Box.mk htk
              clear hcd hz ha hdx hxb htk
              by_cases hk2 : kd2 = 2 ∧ wh = 1
              · obtain ⟨rfl, rfl⟩ := hk2
                have hte : ((t : Int) != (a : Int) - (c : Int)) = false := by have := HTK.out rfl rfl; rw [bne_eq_false_iff_eq]; omega
                go_wp2
                go_roundw
                case rel => exact ⟨j + 1, m, _, _, by omega, by go_num, by go_num, HC3, HO3, HD2, HS4⟩
                case measure => simp [intOf] <;> omega
              · by_cases hk3 : kd2 = 2
                · have hk3b : (kd2 == 2) = true := by simp [hk3]
                  have hk4 : (wh == 1) = false := beq_eq_false_iff_ne.2 (fun h => hk2 ⟨hk3, h⟩)
                  have hk4' : ¬ wh = 1 := fun h => hk2 ⟨hk3, h⟩
                  clear hk2 hk3
                  go_wp2
                  go_roundw
                  case rel => exact ⟨j + 1, m, _, _, by omega, by go_num, by go_num, HC3, HO3, HD2, HS4⟩
                  case measure => simp [intOf] <;> omega
                · have hk3b : (kd2 == 2) = false := beq_eq_false_iff_ne.2 hk3
                  clear hk2
                  go_wp2
                  go_roundw
                  case rel => exact ⟨j + 1, m, _, _, by omega, by go_num, by go_num, HC3, HO3, HD2, HS4⟩
                  case measure => simp [intOf] <;> omega
            · have hjli : ¬ (j : Int) < L.length := by omega
              have e : d = dl := funext fun x => by rw [HD.out, HFIN.out, List.take_of_length_le (by omega)]
              subst e
              clear HFIN HD HNOD HOUT HROW HYN
              have HS := Box.mk (HS.out.sub (Y := [(Bo, .cells (rowV .u64 o) 28 (0, 0))]) (fun q hq => by rw [List.mem_singleton] at hq; subst hq; exact List.mem_cons_self ..))
              have HFD := Box.mk HS.out.facts
              go_upto_block 5 with fail
              go_wp2
              go_loopw [20] (fun s20 wr => ∃ y : Nat, y ≤ 20 ∧ s20 = .int .i64 y ∧ Box (LS w wr p c t d [] [(Bo, .cells (rowV .u64 o) 28 (0, 0))])) (fun s20 _ => 20 - (intOf s20).toNat)
              case atStart => exact ⟨0, by omega, rfl, HS⟩
              case round =>
                as_aux_lemma =>
                clear HS
                obtain ⟨y, hy20, rfl, HS⟩ := hrel
                by_cases hyl : y < 20
                · have hyi : (y : Int) < 20 := by omega
                  have hyi2 : (0 : Int) ≤ y := by omega
                  have hz := HO2.out.2.1 y hyl
                  have ck : World.cell? _ ⟨Bo, y, none⟩ = some (.int .u64 (((d y).getD 0 : Nat) : Int)) := (cell_blk (HS.out.blk (List.mem_cons_self ..)) y).trans (by rw [rowV_get (by rw [HO2.out.1]; exact hyl), hz])
                  clear hz
                  cases hd : d (y : Int) with
                  | none =>
                    rw [hd] at ck
                    have haz : (((Option.none (α := Nat)).getD 0 : Nat) : Int) = 0 := rfl
                    rw [haz] at ck
                    clear haz hd
                    go_wp2
                    go_roundw
                    case rel => exact ⟨y + 1, by omega, by go_num, HS⟩
                    case measure => simp [intOf] <;> omega
                  | some a =>
                    rw [hd] at ck
                    have haz : (((Option.some a).getD 0 : Nat) : Int) = a := rfl
                    rw [haz] at ck
                    have h3 := (HFD.out.2.2.2 _ _ hd).2.2.1
                    have hab3 : a ≤ 300 := by have := HO2.out.2.2 _ a hd; omega
                    have hab : ((a : Int) == 0) = false := beq_eq_false_iff_ne.2 (by omega)
                    have hab' : ¬ a = 0 := by omega
                    have hge2 : ¬ (a : Int) - (c : Int) ≤ (t : Int) := by omega
                    have hac : (c : Int) ≤ (a : Int) := by omega
                    clear haz hd h3
                    go_wp2
                    go_roundw
                    case rel => exact ⟨y + 1, by omega, by go_num, HS⟩
                    case measure => simp [intOf] <;> omega
                · have hyi : ¬ (y : Int) < 20 := by omega
                  go_wp2
                  go_roundw
                  case rel => exact ⟨i + 1, t, m, d, o, by omega, by omega, by omega, by go_num, rfl, rfl, HC2, HO2, HS⟩
                  case measure => simp [intOf] <;> omega
    · have hex : ((i : Int) < n ∧ ¬ (i : Int) < 150) ∨ ¬ (i : Int) < n := by omega
      have hdd : ((now + 1000 : Nat) : Int) = (now : Int) + 1000 := by omega
      have HALL := Box.mk (fun l (h : LateL d (now + 1000 + c) l) => all_late HOP.out h)
      have HG := ls_go w _ p c now d [] _ HS.out (now + 1000) (by omega) (by omega) (by simp)
      rw [hdd] at HG
      have HG := Box.mk HG
      have hnn2 : ((nn : Int) == (nn : Int)) = true := by simp
      have HCZ : Box (((cntD (fun _ => none) : Nat) : Int) = 0) := ⟨by rw [cnt_none]; rfl⟩
      have HC0 : Box (∀ w' (X : List (Nat × Obj)), LS w w' p c (now + 1000) (fun _ => none) [] X → Calls Try.prog 15 #[.pointer (some ⟨p, 0, none⟩)] w' fun e w'' => e = .returned (.int .i64 0) ∧ w' = w'') := ⟨fun w' X h => by
        have := ls_count w _ p c (now + 1000) _ [] X h
        rw [HCZ.out] at this
        exact this⟩
      clear hgo hdd HCZ
      rcases hex with ⟨x1, x2⟩ | x1
      all_goals
        go_upto_region 49 with (go_at_call 13; (with_reducible refine HG.out.mono ?_); rintro e w3 ⟨fo, n', cc, l, Y, rfl, hl, hnn, hs, -, -, -⟩; have HA := HALL.out l hl; obtain rfl : n' = nn := hnn.trans ((timeF_len l).trans (HA.1.trans HCN.out)); have HS3 := hs; rw [HA.2] at HS3; have HS3 := Box.mk HS3; have HB3 := Box.mk hs.below; clear hl hs HA hnn)
        go_wp2_with (go_at_call 15; (with_reducible refine (HC0.out _ _ HS3.out).mono ?_); rintro e w4 ⟨rfl, rfl⟩)
        go_ret
        exact ⟨rfl, HB3.out⟩
theorem walk (x0 : Int) (a1 : Option Addr) (len1 cap1 : Nat) (z1 : Nat → Nat → Int) (w : World) (g0 : (Lit.int .u8 x0).wf = true) (g1 : ArgStructs [.i64, .i64, .u64, .i64] w a1 len1 z1) :
    Calls Try.prog 5 #[.int .u8 x0, .slice a1 len1 cap1] w fun e w' => e = .returned (.bool true) ∧ Below w.heap.size w w' := by
  simp [Lit.wf, IntKind.min, IntKind.max, IntKind.signed, IntKind.bits] at g0
  obtain ⟨a, rfl⟩ : ∃ a : Nat, x0 = a := ⟨x0.toNat, by omega⟩
  exact walkN a a1 len1 cap1 z1 w (by omega) g1

/-! The row's step. -/
theorem own : ownKnob Try.prog.godebug = none := by kernel_rfl
theorem laidOut : laidOutB Try.prog = true := by kernel_rfl

set_option maxRecDepth 100000 in
theorem lifted (os : Os) (started : os.Started) (H : Type) (enc : TypeId × Value → H) :
    ReturnsInHanded {} Try.checked os 5 .any (Rows.lifeOnceSpec.pre6 enc Try.prog Try.f5 Rows.lifeOnceRow.domain false) (Rows.lifeOnceSpec.post enc Try.prog Try.f5 false true false false) := by
  refine returnsInHanded_of_change (C := Try.checked) own started (by kernel_rfl) Try.func5
    (ChangeSpec.witness6 (enc := enc) (C := Try.checked) false ⟨#[], #[.int .u8 0, .slice none 0 0], []⟩ 8 (by kernel_rfl) (by kernel_rfl) (by kernel_rfl) (by kernel_rfl)) ?_
  intro W base args ds gs before hval0 hW hcnd _
  have hval : ∀ (j : Nat) t v, Try.f5.params[j]? = some t → args[j]? = some v → Value.okWide Try.prog W .any base t v := hval0
  have hW' := hW
  obtain ⟨p, q, hA0, hV, rfl, hfz, hnd⟩ := hW
  have hA : DataW.TrodAll enc Try.prog W 0 (fun _ => true) true Try.f5.params.toList args.toList ds p := hA0
  rw [Try.params5] at hA hval
  obtain ⟨v0, vs0, d0, ds0, p0, q0, hargs, rfl, rfl, h0, r0⟩ := trodAll_cons hA
  obtain ⟨v1, vs1, d1, ds1, p1, q1, rfl, rfl, rfl, h1, r1⟩ := trodAll_cons r0
  obtain ⟨rfl, rfl, rfl⟩ := trodAll_nil r1
  obtain rfl : args = #[v0, v1] := by cases args; simp_all
  obtain ⟨rfl, rfl⟩ := trodVars_none hV
  obtain ⟨x0, rfl, rfl, rfl, w0⟩ := open_int Try.underlying5 (hval 0 5 v0 rfl rfl) h0
  obtain ⟨a1, len1, cap1, rfl⟩ := okWide_slice Try.underlying40 (hval 1 40 v1 rfl rfl)
  have k1 := h1
  have lt1 : ∀ x ∈ p1, x.block < W.heap.size := by obtain ⟨m, hm⟩ := k1; exact DataW.trod_lt m _ _ _ hm
  obtain ⟨z1, w1⟩ := open_structs (ks := [.i64, .i64, .u64, .i64]) Try.underlying40 Try.underlying43 (by kernel_rfl) (by kernel_rfl) (by kernel_rfl) (by decide) h1
  clear hA0 hval0
  refine (walk x0 a1 len1 cap1 z1 W w0 w1).mono fun e W' ⟨he, bel⟩ => ?_
  subst he
  exact ⟨_, rfl, _, _, _, [], _, [], hW', trodAll_mk1 (shut_bool Try.underlying4 _), (trodAll_cons_mk (shut_int Try.underlying5 w0) (trodAll_cons_mk (Below.trod laidOut (by kernel_rfl) (of_decide_eq_true (by kernel_rfl)) k1 bel lt1) trodAll_mk0)), rfl, bel.frame _, fun h => by cases h⟩

theorem over : Rows.lifeOnceRow.holds Try.pinned (OpenSpec.ofChange Rows.lifeOnceSpec) :=
  OpenClaim.holds_of_wide 5 Try.f5 rfl rfl rfl rfl rfl rfl rfl ⟨rfl, rfl, rfl, rfl, rfl⟩ rfl rfl rfl rfl rfl (by kernel_rfl) Try.func5 (by kernel_rfl)
    (of_decide_eq_true (by kernel_rfl)) (by unfold Func.isWrapper; first | (rw [if_pos (by decide +kernel)]; kernel_rfl) | (rw [if_neg (by decide +kernel)]; exact ⟨rfl, rfl⟩))
    (fun os started H enc _ => lifted os started H enc)

/-- The statement. -/
theorem proved : Rows.LifeOnceSaid := over
#print axioms proved

end Go.Proofs.Ytbodnmcaipakcaa.lifeOnce
