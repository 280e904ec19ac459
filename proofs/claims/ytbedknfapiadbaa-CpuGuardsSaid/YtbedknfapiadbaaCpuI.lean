/-
  The walk of cpu's step, as Tick calls it.
-/
import Derived.Test.YtbedknfapiadbaaCpuH
import Derived.Laws.ResultCell
namespace Go.Proofs.Ytbedknfapiadbaa
open Go.RowKit

theorem CpuAt.now_set {w : World} {y : Lay} {M : CpuM} (h : CpuAt w y M) (n : Nat) : CpuAt (w.setCell ⟨y.c, 3, none⟩ (.int .u64 n)) y { M with now := n } ∧ Fr (fun b => b = y.c) w (w.setCell ⟨y.c, 3, none⟩ (.int .u64 n)) := by
  have hf : Fr (fun b => b = y.c) w (w.setCell ⟨y.c, 3, none⟩ (.int .u64 n)) := Fr.setCell (F := fun b => b = y.c) (Fr.refl _ w) (p := ⟨y.c, 3, none⟩) (.inl rfl) _
  have hs : Same w (w.setCell ⟨y.c, 3, none⟩ (.int .u64 n)) y.own y.own := ⟨fun _ _ => rfl, fun b hb => Nat.lt_of_lt_of_le (h.lt b hb) hf.size⟩
  have ne : ∀ {k : Nat} {x : Own}, y.own k = some x → x ≠ .cpu → ¬ k = y.c := fun e h1 h2 => by rw [h2, h.cpu.1] at e; simp at e; exact h1 e.symm
  have hb := blk_set (i := 3) h.cpu.2 (.int .u64 n)
  simp only [List.setIfInBounds_toArray, List.set_cons_succ, List.set_cons_zero] at hb
  exact ⟨⟨hs.2, ⟨h.cpu.1, hb⟩, h.tarr.fr h.lt hf hs (fun _ e => ne e (by simp)), h.sarr.fr h.lt hf hs (fun _ e => ne e (by simp)),
    fun i t ht => ⟨(h.task i t ht).1, hf.blk (h.task i t ht).2.1 (ne (h.task i t ht).1 (by simp)), (h.task i t ht).2.2.fr hf hs (fun _ e => ne e (by simp))⟩,
    fun i s hs' => ⟨(h.srv i s hs').1, hf.blk (h.srv i s hs').2.1 (ne (h.srv i s hs').1 (by simp)), (h.srv i s hs').2.2.own hf hs (fun _ e => ne e (by simp))⟩, h.queue.own hf hs (fun _ e => ne e (by simp))⟩, hf⟩

/-- Task i ran. -/
def Worked (M M1 : CpuM) (i nd nc : Nat) : Prop := ∃ t j, M.tasks[i]? = some t ∧ t.job = some j ∧
  ((j.ran + 1 = j.demand ∧ M1 = { M with tasks := M.tasks.set i { t with job := none }, rows := goR M.rows i } ∧ nd = 1 ∧ nc = 0) ∨
   (j.ran + 1 ≠ j.demand ∧ j.ran + 1 = t.wk.cost ∧ M1 = { M with tasks := M.tasks.set i { t with job := none }, rows := goR M.rows i } ∧ nd = 0 ∧ nc = 1) ∨
   (j.ran + 1 ≠ j.demand ∧ j.ran + 1 ≠ t.wk.cost ∧ M1 = { M with tasks := M.tasks.set i { t with job := some j.step } } ∧ nd = 0 ∧ nc = 0))
/-- Who ran in a tick. -/
def RanM (M M1 : CpuM) (who : Int) (nd nc : Nat) : Prop :=
  (∃ i, (serveL M.now M.servers).2 = some i ∧ who = 100 + i ∧ M1 = { M with servers := (serveL M.now M.servers).1 } ∧ nd = 0 ∧ nc = 0) ∨
  ((serveL M.now M.servers).2 = none ∧ first M.rows = none ∧ who = -1 ∧ M1 = { M with servers := (serveL M.now M.servers).1 } ∧ nd = 0 ∧ nc = 0) ∨
  ((serveL M.now M.servers).2 = none ∧ ∃ p i : Nat, first M.rows = some p ∧ (M.rows p).head?.getD 0 = (i : Int) ∧ who = i ∧ Worked { M with servers := (serveL M.now M.servers).1 } M1 i nd nc)
def CpuM.after (M1 : CpuM) (n : Nat) : CpuM := { M1 with now := n, tasks := M1.tasks.map (fun t => t.late n) }
/-- What a processor must be for a tick. -/
structure CpuOk (M : CpuM) : Prop where
  srv : ∀ s ∈ M.servers, SrvOk M.now s
  now : M.now + 1 < 4611686018427387904
  ns : M.servers.length ≤ 1000
  nt : M.tasks.length ≤ 1000
  head : ∀ p, first M.rows = some p → ∃ (i : Nat) (t : TaskM) (j : JobM), (M.rows p).head?.getD 0 = (i : Int) ∧ M.tasks[i]? = some t ∧ t.job = some j ∧ j.ran < 4611686018427387904

theorem work_any (y : Lay) (M : CpuM) (o : Nat) (A v3 : Value) (w : World) (h : CpuAt w y M) (ho : y.own o = none) (hob : w.heap[o]? = some (.cells #[A, .slice none 0 0, .slice none 0 0, v3] 36 (0, 0)))
    (p i : Nat) (hf : first M.rows = some p) (hx : (M.rows p).head?.getD 0 = (i : Int)) (t : TaskM) (ht : M.tasks[i]? = some t) (j : JobM) (hj : t.job = some j) (hr : j.ran < 4611686018427387904) (hil : M.tasks.length ≤ 1000) :
    Calls Try.prog 31 #[.pointer (some ⟨y.c, 0, none⟩), .pointer (some ⟨o, 0, none⟩)] w fun e w' => e = .returned (.int .i64 i) ∧ ∃ M1 nd nc, Worked M M1 i nd nc ∧ OPost w y o M1 w' ∧ RanB w' o A nd nc v3 := by
  refine (work_some y M o A v3 w h ho hob p i hf hx t ht j hj hr hil).mono fun e w' h => ⟨h.1, ?_⟩
  rcases h.2 with ⟨a, b, c⟩ | ⟨a, a2, b, c⟩ | ⟨a, a2, b, c⟩
  · exact ⟨_, 1, 0, ⟨t, j, ht, hj, .inl ⟨a, rfl, rfl, rfl⟩⟩, b, c⟩
  · exact ⟨_, 0, 1, ⟨t, j, ht, hj, .inr (.inl ⟨a, a2, rfl, rfl, rfl⟩)⟩, b, c⟩
  · exact ⟨_, 0, 0, ⟨t, j, ht, hj, .inr (.inr ⟨a, a2, rfl, rfl, rfl⟩)⟩, b, c⟩
theorem Worked.len {M M1 : CpuM} {i nd nc : Nat} (h : Worked M M1 i nd nc) : M1.tasks.length = M.tasks.length ∧ M1.now = M.now := by
  obtain ⟨t, j, _, _, ⟨_, rfl, _⟩ | ⟨_, _, rfl, _⟩ | ⟨_, _, rfl, _⟩⟩ := h <;> simp

/-- What a tick leaves and tells. -/
def TickPost (w : World) (y : Lay) (M : CpuM) (e : Ending) (w' : World) : Prop :=
  ∃ M1 who nd nc a1 c1 a2 c2 a3 c3, RanM M M1 who nd nc ∧ e = .returned (.tuple #[.agg #[.int .i64 who, .slice a1 nd c1, .slice a2 nc c2, .slice a3 (lateIds (M.now + 1) M1.tasks M1.tasks.length).length c3], .int .i64 0]) ∧ CPost w y (M1.after (M.now + 1)) w'

set_option maxHeartbeats 8000000 in
set_option maxRecDepth 100000 in
theorem step_any (y : Lay) (M : CpuM) (f : Nat) (w : World) (h : CpuAt w y M) (hok : CpuOk M)
    (hfb : w.heap[f]? = some (.cells #[.func (Fn.func 30) #[.pointer (some ⟨y.c, 0, none⟩)] #[], .func (Fn.func 31) #[.pointer (some ⟨y.c, 0, none⟩)] #[]] 80 (0, 0))) (hfo : y.own f = none) :
    Calls Try.prog 29 #[.pointer (some ⟨y.c, 0, none⟩), .slice (some ⟨f, 0, none⟩) 2 2] w (TickPost w y M) := by
  have c3 := h.c3
  have hcl := lt_blk h.cpu.2
  have H := Box.mk h
  have HOK := Box.mk hok
  have HFB := Box.mk hfb
  have hadd := tadd_any M.now 1 hok.now
  obtain ⟨N1, hN1⟩ : ∃ N1, M.now + 1 = N1 := ⟨_, rfl⟩
  have HN1 := Box.mk hN1
  rw [hN1] at hadd
  have HADD := Box.mk hadd
  have HFO := Box.mk hfo
  clear h hok hadd hfb hfo hN1
  go_enter Try.func29, Try.ntmps29
  go_upto_region 5 with (go_at_call 35; refine (HADD.out _).mono ?_; rintro e w1 ⟨rfl, rfl⟩)
  have hf0 : Fr (fun _ => False) w ((w.alloc (.cells #[.int .i64 0, .slice none 0 0, .slice none 0 0, .slice none 0 0] 36)).alloc (.cells #[.int .i64 (-1), .slice none 0 0, .slice none 0 0, .slice none 0 0] 36)) := ((Fr.refl _ w).alloc _).alloc _
  have HA := Box.mk (H.out.fr hf0 (fun _ _ h => h))
  have hB4 := blk_alloc (o := .cells #[.int .i64 (-1), .slice none 0 0, .slice none 0 0, .slice none 0 0] 36) (blk_new w (.cells #[.int .i64 0, .slice none 0 0, .slice none 0 0, .slice none 0 0] 36))
  have hB8 := blk_new (w.alloc (.cells #[.int .i64 0, .slice none 0 0, .slice none 0 0, .slice none 0 0] 36)) (.cells #[.int .i64 (-1), .slice none 0 0, .slice none 0 0, .slice none 0 0] 36)
  rw [show (w.alloc (.cells #[.int .i64 0, .slice none 0 0, .slice none 0 0, .slice none 0 0] 36)).heap.size = w.heap.size + 1 from by simp] at hB8
  have HFB1 := Box.mk (hf0.blk HFB.out (fun h => h))
  have HF0 := Box.mk hf0
  have HO4 : Box (y.own w.heap.size = none) := ⟨by cases e : y.own w.heap.size with | none => rfl | some x => exact absurd (H.out.lt _ (by rw [e]; simp)) (by omega)⟩
  have HO8 : Box (y.own (w.heap.size + 1) = none) := ⟨by cases e : y.own (w.heap.size + 1) with | none => rfl | some x => exact absurd (H.out.lt _ (by rw [e]; simp)) (by omega)⟩
  have HB4 := Box.mk hB4
  have HB8 := Box.mk hB8
  have hwl : w.heap.size ≤ w.heap.size := Nat.le_refl _
  have HN48 : Box (w.heap.size ≠ w.heap.size + 1) := ⟨by omega⟩
  have HN4 : Box (w.heap.size ≤ w.heap.size ∧ w.heap.size ≤ w.heap.size + 1) := ⟨by omega⟩
  have HNFO : Box (f ≠ w.heap.size + 1) := ⟨by have := lt_blk HFB.out; omega⟩
  have HNFB : Box (f ≠ w.heap.size) := ⟨by have := lt_blk HFB.out; omega⟩
  clear hf0 hB4 hB8 hwl c3 hcl
  generalize (w.alloc (.cells #[.int .i64 0, .slice none 0 0, .slice none 0 0, .slice none 0 0] 36)).alloc (.cells #[.int .i64 (-1), .slice none 0 0, .slice none 0 0, .slice none 0 0] 36) = V at HA HB4 HB8 HFB1 HF0 ⊢
  obtain ⟨o, ho⟩ : ∃ o, w.heap.size + 1 = o := ⟨_, rfl⟩
  obtain ⟨B, hB⟩ : ∃ B, w.heap.size = B := ⟨_, rfl⟩
  have HBw := Box.mk hB
  rw [ho] at HO8 HB8 HN48 HN4 HNFO ⊢
  rw [hB] at HO4 HB4 HN48 HN4 HNFB ⊢
  clear ho hB
  have x0 := cell_blk HFB1.out 0
  have x1 := cell_blk HFB1.out 1
  have y0 := cell_blk HB8.out 0
  have g0 := free_blk HB8.out 0
  simp only [List.getElem?_toArray, List.getElem?_cons_zero, List.getElem?_cons_succ] at x0 x1 y0
  have HSV := Box.mk (serve_any y M (.pointer (some ⟨o, 0, none⟩)) V HA.out HOK.out.srv (by have := HOK.out.now; omega) HOK.out.ns)
  cases hsl : (serveL M.now M.servers).2 with
  | some i =>
    have HSL := Box.mk hsl
    have hvv : serveV (serveL M.now M.servers).2 = 100 + i := by rw [hsl]; rfl
    rw [hvv] at HSV
    clear hsl hvv
    go_wp2_with fail
    refine wp_loop_rounds 3 ?_
    rw [rounds_succ]
    go_wp2_with (go_at_call 30; refine HSV.out.mono ?_; rintro e w2 ⟨rfl, hsp⟩; obtain ⟨own1, ha1, hf1, hs1⟩ := hsp; have hb8 := hf1.blk HB8.out (fun e => e HO8.out); have hb4 := hf1.blk HB4.out (fun e => e HO4.out); have hfb := hf1.blk HFB1.out (fun e => e HFO.out); have HA1 := Box.mk ha1; have HF1 := Box.mk hf1; have HS1 := Box.mk hs1; have HB81 := Box.mk hb8; have HB41 := Box.mk hb4; have z0 := cell_blk hb8 0; have z1 := free_blk hb8 0; have z2 := cell_blk hfb 1; have HFB2 := Box.mk hfb; simp only [List.getElem?_toArray, List.getElem?_cons_zero, List.getElem?_cons_succ] at z0 z2; clear ha1 hf1 hs1 hb8 hb4 hfb)
    have hst : Fr (fun b => b = o) w2 (w2.setCell ⟨o, 0, none⟩ (.int .i64 (100 + i))) := Fr.setCell (F := fun b => b = o) (Fr.refl _ w2) (p := ⟨o, 0, none⟩) (.inl rfl) _
    have hbo2 := blk_set (i := 0) HB81.out (.int .i64 (100 + i))
    simp only [List.setIfInBounds_toArray, List.set_cons_succ, List.set_cons_zero] at hbo2
    have hos1 : own1 o = none := (HS1.out.1 o (lt_blk HB8.out)).trans HO8.out
    have hBs1 : own1 B = none := (HS1.out.1 B (lt_blk HB4.out)).trans HO4.out
    have HO83 : Box ({ y with own := own1 }.own o = none) := ⟨hos1⟩
    have HO43 : Box ({ y with own := own1 }.own B = none) := ⟨hBs1⟩
    have HA3 := Box.mk (HA1.out.fr hst (fun b hb e => by subst e; exact hb hos1))
    have HB83 := Box.mk hbo2
    have HB43 := Box.mk (hst.blk HB41.out HN48.out)
    have HF3 : Box (Fr (fun k => y.own k ≠ none ∨ k = o) V (w2.setCell ⟨o, 0, none⟩ (.int .i64 (100 + i)))) := ⟨(HF1.out.mono (fun _ _ e => .inl e)).trans (hst.mono (fun b _ e => .inr e))⟩
    have HS3 : Box (Same V (w2.setCell ⟨o, 0, none⟩ (.int .i64 (100 + i))) y.own { y with own := own1 }.own) := ⟨⟨HS1.out.1, fun b hb => Nat.lt_of_lt_of_le (HS1.out.2 b hb) hst.size⟩⟩
    have HYC : Box ({ y with own := own1 }.c = y.c) := ⟨rfl⟩
    have HRM : Box (RanM M { M with servers := (serveL M.now M.servers).1 } (100 + i) 0 0) := ⟨.inl ⟨i, HSL.out, rfl, rfl, rfl, rfl⟩⟩
    have HLEN : Box (({ M with servers := (serveL M.now M.servers).1 } : CpuM).tasks.length = M.tasks.length) := ⟨rfl⟩
    have hwho : ((100 + (i : Int)) == -1) = false := beq_eq_false_iff_ne.2 (by omega)
    have q0 := cell_blk hbo2 0
    simp only [List.getElem?_toArray, List.getElem?_cons_zero, List.getElem?_cons_succ] at q0
    have q2 := cell_blk (hst.blk HFB2.out (fun e => HNFO.out e)) 1
    simp only [List.getElem?_toArray, List.getElem?_cons_zero, List.getElem?_cons_succ] at q2
    clear hst hbo2 hos1 hBs1 z0 z1 z2
    generalize w2.setCell ⟨o, 0, none⟩ (.int .i64 (100 + i)) = V3 at HA3 HB83 HB43 HF3 HS3 q0 q2 ⊢
    generalize ({ y with own := own1 } : Lay) = y3 at HA3 HO83 HO43 HS3 HYC
    generalize ({ M with servers := (serveL M.now M.servers).1 } : CpuM) = M1 at HA3 HRM HLEN
    obtain ⟨who, hw⟩ : ∃ who : Int, 100 + (i : Int) = who := ⟨_, rfl⟩
    rw [hw] at hwho q0 HB83 HRM ⊢
    clear hw
    rw [rounds_succ]
    go_wp2
    rw [rounds_succ]
    go_upto_region 11 with fail
    clear q0 q2
    have k3 := HA3.out.c3
    have kf := free_blk HA3.out.cpu.2 3
    rw [HYC.out] at k3 kf
    have hns := HA3.out.now_set N1
    rw [HYC.out] at hns
    have HA4 := Box.mk hns.1
    have hoc : o ≠ y.c := by intro e; have := HA3.out.cpu.1; rw [HYC.out, ← e, HO83.out] at this; cases this
    have hBc : B ≠ y.c := by intro e; have := HA3.out.cpu.1; rw [HYC.out, ← e, HO43.out] at this; cases this
    have HB84 := Box.mk (hns.2.blk HB83.out hoc)
    have HB44 := Box.mk (hns.2.blk HB43.out hBc)
    have HF4 := Box.mk (HF3.out.trans (hns.2.mono (fun b _ e => by subst e; exact .inl (by rw [← HYC.out, ← HS3.out.1 _ (by rw [HYC.out]; exact lt_blk HA.out.cpu.2), HA3.out.cpu.1]; simp))))
    have HZ4 : Box (V3.heap.size ≤ (V3.setCell ⟨y.c, 3, none⟩ (.int .u64 N1)).heap.size) := ⟨hns.2.size⟩
    clear hns hoc hBc
    go_upto_region 12 with fail
    clear k3 kf
    generalize V3.setCell ⟨y.c, 3, none⟩ (.int .u64 N1) = V4 at HA4 HB84 HB44 HF4 HZ4 ⊢
    have hlt := late_any y3 { M1 with now := N1 } o (.int .i64 who) (.slice none 0 0) (.slice none 0 0) V4 HA4.out HO83.out HB84.out (by show M1.tasks.length ≤ 1000; rw [HLEN.out]; exact HOK.out.nt)
    rw [HYC.out] at hlt
    have HLT := Box.mk hlt
    clear hlt
    go_upto_region 13 with (go_at_call 41; refine HLT.out.mono ?_; rintro e w5 ⟨rfl, ha5, ho5, hf5⟩; have HA5 := Box.mk ha5; have HO5 := Box.mk ho5; have HF5 := Box.mk hf5; clear ha5 ho5 hf5)
    obtain ⟨a3, c3, hbo, _⟩ := HO5.out
    have hb5 := HF5.out.blk HB44.out (fun e => by rcases e with e | e; exact e HO43.out; exact HN48.out e)
    have m0 := cell_blk hbo 0
    have m1 := cell_blk hbo 1
    have m2 := cell_blk hbo 2
    have m3 := cell_blk hbo 3
    have b0 := cell_blk hb5 0
    have b1 := cell_blk hb5 1
    have b2 := cell_blk hb5 2
    have b3 := cell_blk hb5 3
    have bf0 := free_blk hb5 0
    have bf1 := free_blk hb5 1
    have bf2 := free_blk hb5 2
    have bf3 := free_blk hb5 3
    simp only [List.getElem?_toArray, List.getElem?_cons_zero, List.getElem?_cons_succ] at m0 m1 m2 m3 b0 b1 b2 b3
    have hz0 := blk_set (i := 0) hb5 (.int .i64 who)
    have hz1 := blk_set (i := 1) hz0 (.slice none 0 0)
    have hz2 := blk_set (i := 2) hz1 (.slice none 0 0)
    have hz3 := blk_set (i := 3) hz2 (.slice a3 (lateIds N1 M1.tasks M1.tasks.length).length c3)
    simp only [List.setIfInBounds_toArray, List.set_cons_succ, List.set_cons_zero] at hz0 hz1 hz2 hz3
    have HFZ : Box (Fr (fun b => b = B) w5 ((((w5.setCell ⟨B, 0, none⟩ (.int .i64 who)).setCell ⟨B, 1, none⟩ (.slice none 0 0)).setCell ⟨B, 2, none⟩ (.slice none 0 0)).setCell ⟨B, 3, none⟩ (.slice a3 (lateIds N1 M1.tasks M1.tasks.length).length c3))) :=
      ⟨((((Fr.refl _ w5).setCell (F := fun b => b = B) (p := ⟨B, 0, none⟩) (.inl rfl) _).setCell (F := fun b => b = B) (p := ⟨B, 1, none⟩) (.inl rfl) _).setCell (F := fun b => b = B) (p := ⟨B, 2, none⟩) (.inl rfl) _).setCell (F := fun b => b = B) (p := ⟨B, 3, none⟩) (.inl rfl) _⟩
    have HZB := Box.mk hz3
    clear hbo hb5 hz0 hz1 hz2 hz3
    go_wp2
    generalize (((w5.setCell ⟨B, 0, none⟩ (.int .i64 who)).setCell ⟨B, 1, none⟩ (.slice none 0 0)).setCell ⟨B, 2, none⟩ (.slice none 0 0)).setCell ⟨B, 3, none⟩ (.slice a3 (lateIds N1 M1.tasks M1.tasks.length).length c3) = V6 at HFZ HZB ⊢
    have s0 := cell_blk HZB.out 0
    have s1 := cell_blk HZB.out 1
    have s2 := cell_blk HZB.out 2
    have s3 := cell_blk HZB.out 3
    simp only [List.getElem?_toArray, List.getElem?_cons_zero, List.getElem?_cons_succ] at s0 s1 s2 s3
    refine bodyPost_ret (v := .tuple #[.agg #[.int .i64 who, .slice none 0 0, .slice none 0 0, .slice a3 (lateIds N1 M1.tasks M1.tasks.length).length c3], .int .i64 0]) (by rw [results_cell_tmp rfl]; simp [go_sem, s0, s1, s2, s3]) rfl ?_
    have HA6 := HA5.out.fr HFZ.out (fun b hb e => by subst e; exact hb HO43.out)
    have hf6 : Fr (fun k => y.own k ≠ none ∨ k = o ∨ k = B) V V6 := by
      refine (HF4.out.mono (fun b _ e => by rcases e with e | e; exact .inl e; exact .inr (.inl e))).trans' (Fr.trans (F := fun k => y3.own k ≠ none ∨ k = o ∨ k = B) (HF5.out.mono (fun b _ e => by rcases e with e | e; exact .inl e; exact .inr (.inl e))) (HFZ.out.mono (fun b _ e => .inr (.inr e)))) (fun b hb e => ?_)
      · rcases e with e | e
        · exact .inl (by rw [← HS3.out.1 b hb]; exact e)
        · exact .inr e
    refine ⟨M1, who, 0, 0, none, 0, none, 0, a3, c3, HRM.out, by rw [HN1.out], ?_⟩
    rw [HN1.out]
    refine ⟨y3, HYC.out, HA6, (HF0.out.mono (fun _ _ h => h.elim)).trans' (F := fun k => y.own k ≠ none) hf6 (fun b hb e => ?_), fun b hb => HS3.out.1 b (Nat.lt_of_lt_of_le hb HF0.out.size), HA6.lt⟩
    rcases e with e | e | e
    · exact e
    · have := HBw.out; have := HN4.out; omega
    · have := HBw.out; omega
  | none =>
    have HSL := Box.mk hsl
    have hvv : serveV (serveL M.now M.servers).2 = -1 := by rw [hsl]; rfl
    rw [hvv] at HSV
    clear hsl hvv
    go_wp2_with fail
    refine wp_loop_rounds 3 ?_
    rw [rounds_succ]
    go_wp2_with (go_at_call 30; refine HSV.out.mono ?_; rintro e w2 ⟨rfl, hsp⟩; obtain ⟨own1, ha1, hf1, hs1⟩ := hsp; have hb8 := hf1.blk HB8.out (fun e => e HO8.out); have hb4 := hf1.blk HB4.out (fun e => e HO4.out); have hfb := hf1.blk HFB1.out (fun e => e HFO.out); have HA1 := Box.mk ha1; have HF1 := Box.mk hf1; have HS1 := Box.mk hs1; have HB81 := Box.mk hb8; have HB41 := Box.mk hb4; have z0 := cell_blk hb8 0; have z1 := free_blk hb8 0; have z2 := cell_blk hfb 1; have HFB2 := Box.mk hfb; simp only [List.getElem?_toArray, List.getElem?_cons_zero, List.getElem?_cons_succ] at z0 z2; clear ha1 hf1 hs1 hb8 hb4 hfb)
    have hst : Fr (fun b => b = o) w2 (w2.setCell ⟨o, 0, none⟩ (.int .i64 (-1))) := Fr.setCell (F := fun b => b = o) (Fr.refl _ w2) (p := ⟨o, 0, none⟩) (.inl rfl) _
    have hbo2 := blk_set (i := 0) HB81.out (.int .i64 (-1))
    simp only [List.setIfInBounds_toArray, List.set_cons_succ, List.set_cons_zero] at hbo2
    have hos1 : own1 o = none := (HS1.out.1 o (lt_blk HB8.out)).trans HO8.out
    have hBs1 : own1 B = none := (HS1.out.1 B (lt_blk HB4.out)).trans HO4.out
    have HO83 : Box ({ y with own := own1 }.own o = none) := ⟨hos1⟩
    have HO43 : Box ({ y with own := own1 }.own B = none) := ⟨hBs1⟩
    have HA3 := Box.mk (HA1.out.fr hst (fun b hb e => by subst e; exact hb hos1))
    have HB83 := Box.mk hbo2
    have HB43 := Box.mk (hst.blk HB41.out HN48.out)
    have HF3 : Box (Fr (fun k => y.own k ≠ none ∨ k = o) V (w2.setCell ⟨o, 0, none⟩ (.int .i64 (-1)))) := ⟨(HF1.out.mono (fun _ _ e => .inl e)).trans (hst.mono (fun b _ e => .inr e))⟩
    have HS3 : Box (Same V (w2.setCell ⟨o, 0, none⟩ (.int .i64 (-1))) y.own { y with own := own1 }.own) := ⟨⟨HS1.out.1, fun b hb => Nat.lt_of_lt_of_le (HS1.out.2 b hb) hst.size⟩⟩
    have HYC : Box ({ y with own := own1 }.c = y.c) := ⟨rfl⟩
    have HLEN : Box (({ M with servers := (serveL M.now M.servers).1 } : CpuM).tasks.length = M.tasks.length) := ⟨rfl⟩
    have q0 := cell_blk hbo2 0
    simp only [List.getElem?_toArray, List.getElem?_cons_zero, List.getElem?_cons_succ] at q0
    have q2 := cell_blk (hst.blk HFB2.out (fun e => HNFO.out e)) 1
    simp only [List.getElem?_toArray, List.getElem?_cons_zero, List.getElem?_cons_succ] at q2
    clear hst hbo2 hos1 hBs1 z0 z1 z2
    generalize w2.setCell ⟨o, 0, none⟩ (.int .i64 (-1)) = V3 at HA3 HB83 HB43 HF3 HS3 q0 q2 ⊢
    generalize ({ y with own := own1 } : Lay) = y3 at HA3 HO83 HO43 HS3 HYC
    obtain ⟨M1, HM1⟩ : ∃ M1 : CpuM, Box ({ M with servers := (serveL M.now M.servers).1 } = M1) := ⟨_, ⟨rfl⟩⟩
    rw [HM1.out] at HA3 HLEN
    rw [rounds_succ]
    cases hfr : first M.rows with
    | none =>
      have HRM : Box (RanM M M1 (-1) 0 0) := ⟨.inr (.inl ⟨HSL.out, hfr, rfl, HM1.out.symm, rfl, rfl⟩)⟩
      have HW := Box.mk (work_none y3 M1 (.pointer (some ⟨o, 0, none⟩)) V3 HA3.out (by rw [← HM1.out]; exact hfr))
      rw [HYC.out] at HW
      have g3 := free_blk HB83.out 0
      go_wp2_with (go_at_call 31; refine HW.out.mono ?_; rintro e w4 ⟨rfl, rfl⟩)
      rw [rounds_succ]
      go_upto_region 11 with fail
      clear q0 q2 g3
      have hst : Fr (fun b => b = o) V3 (V3.setCell ⟨o, 0, none⟩ (.int .i64 (-1))) := Fr.setCell (F := fun b => b = o) (Fr.refl _ V3) (p := ⟨o, 0, none⟩) (.inl rfl) _
      have hbo2 := blk_set (i := 0) HB83.out (.int .i64 (-1))
      simp only [List.setIfInBounds_toArray, List.set_cons_succ, List.set_cons_zero] at hbo2
      have HA3b := Box.mk (HA3.out.fr hst (fun b hb e => by subst e; exact hb HO83.out))
      have HB83b := Box.mk hbo2
      have HB43b := Box.mk (hst.blk HB43.out HN48.out)
      have HF3b := Box.mk (HF3.out.trans (hst.mono (fun b _ e => .inr e)))
      have HS3b : Box (Same V (V3.setCell ⟨o, 0, none⟩ (.int .i64 (-1))) y.own y3.own) := ⟨⟨HS3.out.1, fun b hb => Nat.lt_of_lt_of_le (HS3.out.2 b hb) hst.size⟩⟩
      clear hst hbo2
      generalize V3.setCell ⟨o, 0, none⟩ (.int .i64 (-1)) = V3b at HA3b HB83b HB43b HF3b HS3b ⊢
      obtain ⟨who, hw⟩ : ∃ who : Int, (-1 : Int) = who := ⟨_, rfl⟩
      rw [hw] at HB83b HRM
      clear hw
      have k3 := HA3b.out.c3
      have kf := free_blk HA3b.out.cpu.2 3
      rw [HYC.out] at k3 kf
      have hns := HA3b.out.now_set N1
      rw [HYC.out] at hns
      have HA4 := Box.mk hns.1
      have hoc : o ≠ y.c := by intro e; have := HA3b.out.cpu.1; rw [HYC.out, ← e, HO83.out] at this; cases this
      have hBc : B ≠ y.c := by intro e; have := HA3b.out.cpu.1; rw [HYC.out, ← e, HO43.out] at this; cases this
      have HB84 := Box.mk (hns.2.blk HB83b.out hoc)
      have HB44 := Box.mk (hns.2.blk HB43b.out hBc)
      have HF4 := Box.mk (HF3b.out.trans (hns.2.mono (fun b _ e => by subst e; exact .inl (by rw [← HYC.out, ← HS3b.out.1 _ (by rw [HYC.out]; exact lt_blk HA.out.cpu.2), HA3b.out.cpu.1]; simp))))
      have HZ4 : Box (V3b.heap.size ≤ (V3b.setCell ⟨y.c, 3, none⟩ (.int .u64 N1)).heap.size) := ⟨hns.2.size⟩
      clear hns hoc hBc
      go_upto_region 12 with fail
      clear k3 kf
      generalize V3b.setCell ⟨y.c, 3, none⟩ (.int .u64 N1) = V4 at HA4 HB84 HB44 HF4 HZ4 ⊢
      have hlt := late_any y3 { M1 with now := N1 } o (.int .i64 who) (.slice none 0 0) (.slice none 0 0) V4 HA4.out HO83.out HB84.out (by show M1.tasks.length ≤ 1000; rw [HLEN.out]; exact HOK.out.nt)
      rw [HYC.out] at hlt
      have HLT := Box.mk hlt
      clear hlt
      go_upto_region 13 with (go_at_call 41; refine HLT.out.mono ?_; rintro e w5 ⟨rfl, ha5, ho5, hf5⟩; have HA5 := Box.mk ha5; have HO5 := Box.mk ho5; have HF5 := Box.mk hf5; clear ha5 ho5 hf5)
      obtain ⟨a3, c3, hbo, _⟩ := HO5.out
      have hb5 := HF5.out.blk HB44.out (fun e => by rcases e with e | e; exact e HO43.out; exact HN48.out e)
      have m0 := cell_blk hbo 0
      have m1 := cell_blk hbo 1
      have m2 := cell_blk hbo 2
      have m3 := cell_blk hbo 3
      have b0 := cell_blk hb5 0
      have b1 := cell_blk hb5 1
      have b2 := cell_blk hb5 2
      have b3 := cell_blk hb5 3
      have bf0 := free_blk hb5 0
      have bf1 := free_blk hb5 1
      have bf2 := free_blk hb5 2
      have bf3 := free_blk hb5 3
      simp only [List.getElem?_toArray, List.getElem?_cons_zero, List.getElem?_cons_succ] at m0 m1 m2 m3 b0 b1 b2 b3
      have hz0 := blk_set (i := 0) hb5 (.int .i64 who)
      have hz1 := blk_set (i := 1) hz0 (.slice none 0 0)
      have hz2 := blk_set (i := 2) hz1 (.slice none 0 0)
      have hz3 := blk_set (i := 3) hz2 (.slice a3 (lateIds N1 M1.tasks M1.tasks.length).length c3)
      simp only [List.setIfInBounds_toArray, List.set_cons_succ, List.set_cons_zero] at hz0 hz1 hz2 hz3
      have HFZ : Box (Fr (fun b => b = B) w5 ((((w5.setCell ⟨B, 0, none⟩ (.int .i64 who)).setCell ⟨B, 1, none⟩ (.slice none 0 0)).setCell ⟨B, 2, none⟩ (.slice none 0 0)).setCell ⟨B, 3, none⟩ (.slice a3 (lateIds N1 M1.tasks M1.tasks.length).length c3))) :=
        ⟨((((Fr.refl _ w5).setCell (F := fun b => b = B) (p := ⟨B, 0, none⟩) (.inl rfl) _).setCell (F := fun b => b = B) (p := ⟨B, 1, none⟩) (.inl rfl) _).setCell (F := fun b => b = B) (p := ⟨B, 2, none⟩) (.inl rfl) _).setCell (F := fun b => b = B) (p := ⟨B, 3, none⟩) (.inl rfl) _⟩
      have HZB := Box.mk hz3
      clear hbo hb5 hz0 hz1 hz2 hz3
      go_wp2
      generalize (((w5.setCell ⟨B, 0, none⟩ (.int .i64 who)).setCell ⟨B, 1, none⟩ (.slice none 0 0)).setCell ⟨B, 2, none⟩ (.slice none 0 0)).setCell ⟨B, 3, none⟩ (.slice a3 (lateIds N1 M1.tasks M1.tasks.length).length c3) = V6 at HFZ HZB ⊢
      have s0 := cell_blk HZB.out 0
      have s1 := cell_blk HZB.out 1
      have s2 := cell_blk HZB.out 2
      have s3 := cell_blk HZB.out 3
      simp only [List.getElem?_toArray, List.getElem?_cons_zero, List.getElem?_cons_succ] at s0 s1 s2 s3
      refine bodyPost_ret (v := .tuple #[.agg #[.int .i64 who, .slice none 0 0, .slice none 0 0, .slice a3 (lateIds N1 M1.tasks M1.tasks.length).length c3], .int .i64 0]) (by rw [results_cell_tmp rfl]; simp [go_sem, s0, s1, s2, s3]) rfl ?_
      have HA6 := HA5.out.fr HFZ.out (fun b hb e => by subst e; exact hb HO43.out)
      have hf6 : Fr (fun k => y.own k ≠ none ∨ k = o ∨ k = B) V V6 := by
        refine (HF4.out.mono (fun b _ e => by rcases e with e | e; exact .inl e; exact .inr (.inl e))).trans' (Fr.trans (F := fun k => y3.own k ≠ none ∨ k = o ∨ k = B) (HF5.out.mono (fun b _ e => by rcases e with e | e; exact .inl e; exact .inr (.inl e))) (HFZ.out.mono (fun b _ e => .inr (.inr e)))) (fun b hb e => ?_)
        · rcases e with e | e
          · exact .inl (by rw [← HS3b.out.1 b hb]; exact e)
          · exact .inr e
      refine ⟨M1, who, 0, 0, none, 0, none, 0, a3, c3, HRM.out, by rw [HN1.out], ?_⟩
      rw [HN1.out]
      refine ⟨y3, HYC.out, HA6, (HF0.out.mono (fun _ _ h => h.elim)).trans' (F := fun k => y.own k ≠ none) hf6 (fun b hb e => ?_), fun b hb => HS3b.out.1 b (Nat.lt_of_lt_of_le hb HF0.out.size), HA6.lt⟩
      rcases e with e | e | e
      · exact e
      · have := HBw.out; have := HN4.out; omega
      · have := HBw.out; omega
    | some p =>
      obtain ⟨i, t, j, hx, ht, hj, hr⟩ := HOK.out.head p hfr
      have HW := Box.mk (work_any y3 M1 o (.int .i64 (-1)) (.slice none 0 0) V3 HA3.out HO83.out HB83.out p i (by rw [← HM1.out]; exact hfr) (by rw [← HM1.out]; exact hx) t (by rw [← HM1.out]; exact ht) j hj hr (by rw [HLEN.out]; exact HOK.out.nt))
      rw [HYC.out] at HW
      go_wp2_with (go_at_call 31; refine HW.out.mono ?_; rintro e w4 ⟨rfl, M2, nd, nc, hwk, ⟨y4, hyc, ha4, hf4, hs4⟩, a1, c1, a2, c2, hbk⟩; have HWK := Box.mk hwk; have HYC4 := Box.mk (hyc.trans HYC.out); have HA4 := Box.mk ha4; have HF4 := Box.mk hf4; have HS4 := Box.mk hs4; have HBK := Box.mk hbk; have g1 := cell_blk hbk 0; have g3 := free_blk hbk 0; simp only [List.getElem?_toArray, List.getElem?_cons_zero] at g1; clear hwk hyc ha4 hf4 hs4 hbk)
      rw [rounds_succ]
      go_upto_region 11 with fail
      clear q0 q2 g1 g3
      have HRM : Box (RanM M M2 i nd nc) := ⟨.inr (.inr ⟨HSL.out, p, i, hfr, hx, rfl, by rw [HM1.out]; exact HWK.out⟩)⟩
      have HLEN2 : Box (M2.tasks.length = M.tasks.length) := ⟨HWK.out.len.1.trans HLEN.out⟩
      have hst : Fr (fun b => b = o) w4 (w4.setCell ⟨o, 0, none⟩ (.int .i64 i)) := Fr.setCell (F := fun b => b = o) (Fr.refl _ w4) (p := ⟨o, 0, none⟩) (.inl rfl) _
      have hbo2 := blk_set (i := 0) HBK.out (.int .i64 i)
      simp only [List.setIfInBounds_toArray, List.set_cons_succ, List.set_cons_zero] at hbo2
      have ho4 : y4.own o = none := (HS4.out.1 o (lt_blk HB83.out)).trans HO83.out
      have hB4 : y4.own B = none := (HS4.out.1 B (lt_blk HB43.out)).trans HO43.out
      have hb4 := HF4.out.blk HB43.out (fun e => by rcases e with e | e; exact e HO43.out; exact HN48.out e)
      have HA3b := Box.mk (HA4.out.fr hst (fun b hb e => by subst e; exact hb ho4))
      have HB83b := Box.mk hbo2
      have HB43b := Box.mk (hst.blk hb4 HN48.out)
      have HF3b := Box.mk (HF3.out.trans' (HF4.out.trans (hst.mono (fun b _ e => .inr e))) (fun b hb e => by rcases e with e | e; exact .inl (by rw [← HS3.out.1 b hb]; exact e); exact .inr e))
      have HS3b : Box (Same V (w4.setCell ⟨o, 0, none⟩ (.int .i64 i)) y.own y4.own) := ⟨⟨fun b hb => (HS4.out.1 b (Nat.lt_of_lt_of_le hb HF3.out.size)).trans (HS3.out.1 b hb), fun b hb => Nat.lt_of_lt_of_le (HS4.out.2 b hb) hst.size⟩⟩
      have HO83b := Box.mk ho4
      have HO43b := Box.mk hB4
      clear hst hbo2 ho4 hB4 hb4 hx ht hj hr HLEN HW HA4 HF4 HS4 HBK HA3 HF3 HS3 HB83 HB43 HO83 HO43 HYC
      generalize w4.setCell ⟨o, 0, none⟩ (.int .i64 i) = V3b at HA3b HB83b HB43b HF3b HS3b ⊢
      have HO83 := HO83b
      have HO43 := HO43b
      have HYC := HYC4
      have HLEN := HLEN2
      obtain ⟨who, hw⟩ : ∃ who : Int, (i : Int) = who := ⟨_, rfl⟩
      rw [hw] at HB83b HRM
      clear hw
      have k3 := HA3b.out.c3
      have kf := free_blk HA3b.out.cpu.2 3
      rw [HYC.out] at k3 kf
      have hns := HA3b.out.now_set N1
      rw [HYC.out] at hns
      have HA4 := Box.mk hns.1
      have hoc : o ≠ y.c := by intro e; have := HA3b.out.cpu.1; rw [HYC.out, ← e, HO83.out] at this; cases this
      have hBc : B ≠ y.c := by intro e; have := HA3b.out.cpu.1; rw [HYC.out, ← e, HO43.out] at this; cases this
      have HB84 := Box.mk (hns.2.blk HB83b.out hoc)
      have HB44 := Box.mk (hns.2.blk HB43b.out hBc)
      have HF4 := Box.mk (HF3b.out.trans (hns.2.mono (fun b _ e => by subst e; exact .inl (by rw [← HYC.out, ← HS3b.out.1 _ (by rw [HYC.out]; exact lt_blk HA.out.cpu.2), HA3b.out.cpu.1]; simp))))
      have HZ4 : Box (V3b.heap.size ≤ (V3b.setCell ⟨y.c, 3, none⟩ (.int .u64 N1)).heap.size) := ⟨hns.2.size⟩
      clear hns hoc hBc
      go_upto_region 12 with fail
      clear k3 kf
      generalize V3b.setCell ⟨y.c, 3, none⟩ (.int .u64 N1) = V4 at HA4 HB84 HB44 HF4 HZ4 ⊢
      have hlt := late_any y4 { M2 with now := N1 } o (.int .i64 who) (.slice a1 nd c1) (.slice a2 nc c2) V4 HA4.out HO83.out HB84.out (by show M2.tasks.length ≤ 1000; rw [HLEN.out]; exact HOK.out.nt)
      rw [HYC.out] at hlt
      have HLT := Box.mk hlt
      clear hlt
      go_upto_region 13 with (go_at_call 41; refine HLT.out.mono ?_; rintro e w5 ⟨rfl, ha5, ho5, hf5⟩; have HA5 := Box.mk ha5; have HO5 := Box.mk ho5; have HF5 := Box.mk hf5; clear ha5 ho5 hf5)
      obtain ⟨a3, c3, hbo, _⟩ := HO5.out
      have hb5 := HF5.out.blk HB44.out (fun e => by rcases e with e | e; exact e HO43.out; exact HN48.out e)
      have m0 := cell_blk hbo 0
      have m1 := cell_blk hbo 1
      have m2 := cell_blk hbo 2
      have m3 := cell_blk hbo 3
      have b0 := cell_blk hb5 0
      have b1 := cell_blk hb5 1
      have b2 := cell_blk hb5 2
      have b3 := cell_blk hb5 3
      have bf0 := free_blk hb5 0
      have bf1 := free_blk hb5 1
      have bf2 := free_blk hb5 2
      have bf3 := free_blk hb5 3
      simp only [List.getElem?_toArray, List.getElem?_cons_zero, List.getElem?_cons_succ] at m0 m1 m2 m3 b0 b1 b2 b3
      have hz0 := blk_set (i := 0) hb5 (.int .i64 who)
      have hz1 := blk_set (i := 1) hz0 (.slice a1 nd c1)
      have hz2 := blk_set (i := 2) hz1 (.slice a2 nc c2)
      have hz3 := blk_set (i := 3) hz2 (.slice a3 (lateIds N1 M2.tasks M2.tasks.length).length c3)
      simp only [List.setIfInBounds_toArray, List.set_cons_succ, List.set_cons_zero] at hz0 hz1 hz2 hz3
      have HFZ : Box (Fr (fun b => b = B) w5 ((((w5.setCell ⟨B, 0, none⟩ (.int .i64 who)).setCell ⟨B, 1, none⟩ (.slice a1 nd c1)).setCell ⟨B, 2, none⟩ (.slice a2 nc c2)).setCell ⟨B, 3, none⟩ (.slice a3 (lateIds N1 M2.tasks M2.tasks.length).length c3))) :=
        ⟨((((Fr.refl _ w5).setCell (F := fun b => b = B) (p := ⟨B, 0, none⟩) (.inl rfl) _).setCell (F := fun b => b = B) (p := ⟨B, 1, none⟩) (.inl rfl) _).setCell (F := fun b => b = B) (p := ⟨B, 2, none⟩) (.inl rfl) _).setCell (F := fun b => b = B) (p := ⟨B, 3, none⟩) (.inl rfl) _⟩
      have HZB := Box.mk hz3
      clear hbo hb5 hz0 hz1 hz2 hz3
      go_wp2
      generalize (((w5.setCell ⟨B, 0, none⟩ (.int .i64 who)).setCell ⟨B, 1, none⟩ (.slice a1 nd c1)).setCell ⟨B, 2, none⟩ (.slice a2 nc c2)).setCell ⟨B, 3, none⟩ (.slice a3 (lateIds N1 M2.tasks M2.tasks.length).length c3) = V6 at HFZ HZB ⊢
      have s0 := cell_blk HZB.out 0
      have s1 := cell_blk HZB.out 1
      have s2 := cell_blk HZB.out 2
      have s3 := cell_blk HZB.out 3
      simp only [List.getElem?_toArray, List.getElem?_cons_zero, List.getElem?_cons_succ] at s0 s1 s2 s3
      refine bodyPost_ret (v := .tuple #[.agg #[.int .i64 who, .slice a1 nd c1, .slice a2 nc c2, .slice a3 (lateIds N1 M2.tasks M2.tasks.length).length c3], .int .i64 0]) (by rw [results_cell_tmp rfl]; simp [go_sem, s0, s1, s2, s3]) rfl ?_
      have HA6 := HA5.out.fr HFZ.out (fun b hb e => by subst e; exact hb HO43.out)
      have hf6 : Fr (fun k => y.own k ≠ none ∨ k = o ∨ k = B) V V6 := by
        refine (HF4.out.mono (fun b _ e => by rcases e with e | e; exact .inl e; exact .inr (.inl e))).trans' (Fr.trans (F := fun k => y4.own k ≠ none ∨ k = o ∨ k = B) (HF5.out.mono (fun b _ e => by rcases e with e | e; exact .inl e; exact .inr (.inl e))) (HFZ.out.mono (fun b _ e => .inr (.inr e)))) (fun b hb e => ?_)
        · rcases e with e | e
          · exact .inl (by rw [← HS3b.out.1 b hb]; exact e)
          · exact .inr e
      refine ⟨M2, who, nd, nc, a1, c1, a2, c2, a3, c3, HRM.out, by rw [HN1.out], ?_⟩
      rw [HN1.out]
      refine ⟨y4, HYC.out, HA6, (HF0.out.mono (fun _ _ h => h.elim)).trans' (F := fun k => y.own k ≠ none) hf6 (fun b hb e => ?_), fun b hb => HS3b.out.1 b (Nat.lt_of_lt_of_le hb HF0.out.size), HA6.lt⟩
      rcases e with e | e | e
      · exact e
      · have := HBw.out; have := HN4.out; omega
      · have := HBw.out; omega

end Go.Proofs.Ytbedknfapiadbaa

