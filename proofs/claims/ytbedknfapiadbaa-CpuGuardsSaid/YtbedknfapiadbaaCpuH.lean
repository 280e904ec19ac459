/-
  The walk of cpu's work.
-/
import Derived.Test.YtbedknfapiadbaaCpuG
namespace Go.Proofs.Ytbedknfapiadbaa
open Go.RowKit

open Classical in
/-- A call has turned the queue. -/
theorem CpuAt.q_call {w w' : World} {y : Lay} {M : CpuM} (h : CpuAt w y M) {r' : Nat → List Int} (hp : ∃ F', QRep w' y.q r' F' ∧ Fr (fun k => y.own k = some .queue) w w' ∧ Gro (fun k => y.own k = some .queue) F' w) :
    ∃ own', CpuAt w' { y with own := own' } { M with rows := r' } ∧ Fr (fun k => y.own k = some .queue) w w' ∧ Same w w' y.own own' := by
  obtain ⟨G', g1, g2, g3⟩ := hp
  let own' : Nat → Option Own := fun k => if k < w.heap.size then y.own k else if G' k then some .queue else none
  have hs : Same w w' y.own own' := by
    refine ⟨fun k hk => by simp only [own', if_pos hk], fun k hk => ?_⟩
    by_cases hlt : k < w.heap.size
    · exact Nat.lt_of_lt_of_le hlt g2.size
    · by_cases hg : G' k
      · exact g1.lt k hg
      · simp only [own', if_neg hlt, if_neg hg] at hk
        exact absurd rfl hk
  have hq : QRep w' y.q r' (fun k => own' k = some .queue) := by
    refine g1.mono (fun k hg => ?_) (fun k (hk : own' k = _) => hs.2 k (by rw [hk]; simp))
    show own' k = _
    by_cases hlt : k < w.heap.size
    · simp only [own', if_pos hlt]
      rcases g3 k hg with e | e
      · exact e
      · omega
    · simp only [own', if_neg hlt, if_pos hg]
  have ne : ∀ {k : Nat} {x : Own}, y.own k = some x → x ≠ .queue → ¬ y.own k = some .queue := fun e h1 h2 => by rw [e] at h2; simp at h2; exact h1 h2
  have old : ∀ {k : Nat} {x : Own}, y.own k = some x → own' k = some x := fun e => (hs.1 _ (h.lt _ (by rw [e]; simp))).trans e
  exact ⟨own', ⟨hs.2, ⟨old h.cpu.1, g2.blk h.cpu.2 (ne h.cpu.1 (by simp))⟩, h.tarr.fr h.lt g2 hs (fun _ e => ne e (by simp)), h.sarr.fr h.lt g2 hs (fun _ e => ne e (by simp)),
    fun i t ht => ⟨old (h.task i t ht).1, g2.blk (h.task i t ht).2.1 (ne (h.task i t ht).1 (by simp)), (h.task i t ht).2.2.fr g2 hs (fun _ e => ne e (by simp))⟩,
    fun i s hs' => ⟨old (h.srv i s hs').1, g2.blk (h.srv i s hs').2.1 (ne (h.srv i s hs').1 (by simp)), (h.srv i s hs').2.2.own g2 hs (fun _ e => ne e (by simp))⟩, hq⟩, g2, hs⟩

/-- What a call leaves that writes into a block o besides. -/
def OPost (w : World) (y : Lay) (o : Nat) (M' : CpuM) (w' : World) : Prop := ∃ y', y'.c = y.c ∧ CpuAt w' y' M' ∧ Fr (fun k => y.own k ≠ none ∨ k = o) w w' ∧ Same w w' y.own y'.own
/-- A tick's block. -/
def RanB (w : World) (o : Nat) (A : Value) (nd nc : Nat) (v3 : Value) : Prop := ∃ a1 c1 a2 c2, w.heap[o]? = some (.cells #[A, .slice a1 nd c1, .slice a2 nc c2, v3] 36 (0, 0))

set_option maxHeartbeats 1000000 in
theorem work_none (y : Lay) (M : CpuM) (out : Value) (w : World) (h : CpuAt w y M) (hf : first M.rows = none) :
    Calls Try.prog 31 #[.pointer (some ⟨y.c, 0, none⟩), out] w fun e w' => e = .returned (.int .i64 (-1)) ∧ w = w' := by
  have c2 := h.c2
  have hq := first_any y.q M.rows _ w h.queue
  have hv : firstV M.rows = .tuple #[.int .i64 0, .int .i64 0, .int .i64 5] := by simp [firstV, hf]
  rw [hv] at hq
  have HQ := Box.mk hq
  clear h hf hq hv
  go_enter Try.func31, Try.ntmps31
  go_wp2_with (go_at_call 43; refine HQ.out.mono ?_; rintro e w1 ⟨rfl, rfl⟩)
  go_ret
  exact ⟨rfl, rfl⟩

/-- The job's next tick. -/
def JobM.step (j : JobM) : JobM := ⟨j.demand, j.ran + 1, j.dead, j.missed⟩
theorem CpuAt.ran {w : World} {y : Lay} {M : CpuM} (h : CpuAt w y M) {i : Nat} {t : TaskM} {j : JobM} (ht : M.tasks[i]? = some t) (hj : t.job = some j) :
    w.heap[y.jp i]? = some (.cells #[.int .u64 j.demand, .int .u64 j.ran, .int .u64 j.dead, .bool j.missed] 88 (0, 0)) ∧ y.own (y.jp i) = some (.job i) := by
  obtain ⟨_, _, hja⟩ := h.task i t ht
  rw [hj] at hja
  exact ⟨hja.2, hja.1⟩

set_option maxHeartbeats 8000000 in
set_option maxRecDepth 100000 in
theorem work_some (y : Lay) (M : CpuM) (o : Nat) (A v3 : Value) (w : World) (h : CpuAt w y M) (ho : y.own o = none) (hob : w.heap[o]? = some (.cells #[A, .slice none 0 0, .slice none 0 0, v3] 36 (0, 0)))
    (p i : Nat) (hf : first M.rows = some p) (hx : (M.rows p).head?.getD 0 = (i : Int)) (t : TaskM) (ht : M.tasks[i]? = some t) (j : JobM) (hj : t.job = some j) (hr : j.ran < 4611686018427387904) (hil : M.tasks.length ≤ 1000) :
    Calls Try.prog 31 #[.pointer (some ⟨y.c, 0, none⟩), .pointer (some ⟨o, 0, none⟩)] w fun e w' => e = .returned (.int .i64 i) ∧
      ((j.ran + 1 = j.demand ∧ OPost w y o { M with tasks := M.tasks.set i { t with job := none }, rows := goR M.rows i } w' ∧ RanB w' o A 1 0 v3) ∨
       (j.ran + 1 ≠ j.demand ∧ j.ran + 1 = t.wk.cost ∧ OPost w y o { M with tasks := M.tasks.set i { t with job := none }, rows := goR M.rows i } w' ∧ RanB w' o A 0 1 v3) ∨
       (j.ran + 1 ≠ j.demand ∧ j.ran + 1 ≠ t.wk.cost ∧ OPost w y o { M with tasks := M.tasks.set i { t with job := some j.step } } w' ∧ RanB w' o A 0 0 v3)) := by
  obtain ⟨T, S, rs, now⟩ := M
  simp only at hf hx ht hil
  obtain ⟨wk, jb, bg, ls⟩ := t
  simp only at hj
  subst hj
  obtain ⟨de, ra, dd, mi⟩ := j
  have H := Box.mk h
  have HO := Box.mk ho
  have HT := Box.mk ht
  have hi' : i < T.length := (List.getElem?_eq_some_iff.1 ht).1
  have c0 := h.c0
  have c2 := h.c2
  have hq := first_any y.q rs _ w h.queue
  have hv : firstV rs = .tuple #[.int .i64 i, .int .i64 p, .int .i64 0] := by simp [firstV, hf, hx]
  rw [hv] at hq
  have HQ := Box.mk hq
  obtain ⟨hto, htb, _⟩ := h.task i _ ht
  obtain ⟨hjb, hjo⟩ := h.ran ht rfl
  have HTO := Box.mk hto
  have HJO := Box.mk hjo
  have HTB := Box.mk htb
  have e4 := cell_blk htb 4
  have e1 := cell_blk htb 1
  have j0 := cell_blk hjb 0
  have j1 := cell_blk hjb 1
  have f1 := free_blk hjb 1
  simp only [List.getElem?_toArray, List.getElem?_cons_zero, List.getElem?_cons_succ, jobV] at e1 e4 j0 j1
  simp only at c0 c2
  obtain ⟨g, hg, _, hnc, hc, hcell⟩ := h.tarr.get (i := i) hi'
  simp only at hg hnc hc
  obtain ⟨n, hn⟩ : ∃ n, T.length = n := ⟨_, rfl⟩
  rw [hn] at c0 hnc hi' hil
  rw [hg] at c0
  have hsum : IntKind.u64.wrap ((ra : Int) + 1) = ((ra + 1 : Nat) : Int) := by simp only at hr; rw [IntWalk.u64_in _ (by omega)]; omega
  obtain ⟨R, hR⟩ : ∃ R, ra + 1 = R := ⟨_, rfl⟩
  have HRR := Box.mk hR
  rw [hR] at hsum
  have hfs : Fr (fun b => b = y.jp i) w (w.setCell ⟨y.jp i, 1, none⟩ (.int .u64 R)) := Fr.setCell (F := fun b => b = y.jp i) (Fr.refl _ w) (p := ⟨y.jp i, 1, none⟩) (.inl rfl) _
  have hb1 := blk_set (i := 1) hjb (.int .u64 R)
  simp only [List.setIfInBounds_toArray, List.set_cons_succ, List.set_cons_zero] at hb1
  have HA1 := Box.mk (h.job_upd (j' := ⟨de, R, dd, mi⟩) ht rfl hfs hb1)
  have hoj : o ≠ y.jp i := by intro e; rw [e, hjo] at ho; cases ho
  have HOB := Box.mk (hfs.blk hob hoj)
  have HF1 : Box (Fr (fun k => y.own k ≠ none ∨ k = o) w (w.setCell ⟨y.jp i, 1, none⟩ (.int .u64 R))) := ⟨hfs.mono (fun b _ e => by subst e; exact .inl (by rw [hjo]; simp))⟩
  have hJB1 := Box.mk hb1
  clear h ho ht hf hx hq hv hto htb hjb hjo hg hn hob hfs hb1 hR hr
  go_enter Try.func31, Try.ntmps31
  go_upto_region 6 with (go_at_call 43; refine HQ.out.mono ?_; rintro e w1 ⟨rfl, rfl⟩)
  clear e4 e1 j1 f1 hsum
  have HJS : Box ((⟨de, ra, dd, mi⟩ : JobM).step = ⟨de, R, dd, mi⟩) := ⟨by rw [← HRR.out]; rfl⟩
  have HTS : Box ((T.set i ⟨wk, some ⟨de, R, dd, mi⟩, bg, ls⟩)[i]? = some ⟨wk, some ⟨de, R, dd, mi⟩, bg, ls⟩) := ⟨by
    rw [List.getElem?_set, if_pos rfl, if_pos (List.getElem?_eq_some_iff.1 HT.out).1]⟩
  generalize w.setCell ⟨y.jp i, 1, none⟩ (.int .u64 R) = V at HA1 HOB HF1 hJB1 ⊢
  obtain ⟨_, ht1, _⟩ := HA1.out.task i _ HTS.out
  have k1 := cell_blk ht1 1
  have k4 := cell_blk ht1 4
  have r0 := cell_blk hJB1.out 0
  have r1 := cell_blk hJB1.out 1
  simp only [List.getElem?_toArray, List.getElem?_cons_zero, List.getElem?_cons_succ, jobV] at k1 k4 r0 r1
  have HONE : Box (∀ u ∈ ([.int .i64 i] : List Value), u.oneCell' = true) := ⟨by simp [Value.oneCell']⟩
  obtain ⟨i0, hi0, hz0, hz1, hz2⟩ := info_parts Try.infoInt
  clear ht1 c0 c2 hcell
  by_cases hde : R = de
  · have ed : ((R : Int) == (de : Int)) = true := by simp [hde]
    have hol := lt_blk HOB.out
    have o1 := cell_blk HOB.out 1
    have fo := free_blk HOB.out 1
    simp only [List.getElem?_toArray, List.getElem?_cons_zero, List.getElem?_cons_succ] at o1
    have HO1 := Box.mk o1
    have HFO := Box.mk fo
    go_upto_region 12 with (at_builtin; refine wpList_append_lies _ rfl (.tmp 58) (.tmp 60) 34 rfl V.heap.size 3 i0 (.int .i64 0) 1 8 Try.underlying34 hi0 hz0 hz1 hz2 rfl (by decide) (.slice none 0 0) 0 [] rfl (World.ownsRow_nil _ _ _ _) ⟨V.heap.size, 0, none⟩ 1 1 [.int .i64 i] rfl rfl (World.news_of_block (cs := #[.int .i64 i]) (blk_new _ _)) HONE.out (by decide) (by unfold maxLen; decide) (by decide) (by simp) _ rfl ?_; intro g3 c3 w3 ho3 hg3 _ _; have hb3 : Below V.heap.size V w3 := ((Below.refl _ _).alloc (Nat.le_refl _) (.cells #[.int .i64 i] 3)).grown hg3 (by simp) (fun k e => by cases e); have HB3 := Box.mk hb3; have q1 := (hb3.cell (p := ⟨o, 1, none⟩) hol).trans HO1.out; have q2 := (hb3.frozen (p := ⟨o, 1, none⟩) hol).trans HFO.out; clear ho3 hg3 hb3)
    have hfo : Fr (fun b => b = o) w3 (w3.setCell ⟨o, 1, none⟩ (.slice (some ⟨g3, 0, none⟩) (0 + 1) c3)) := Fr.setCell (F := fun b => b = o) (Fr.refl _ w3) (p := ⟨o, 1, none⟩) (.inl rfl) _
    have HA2 := Box.mk ((HA1.out.later HB3.out).fr hfo (fun b hb e => by subst e; exact hb HO.out))
    have hbo : w3.heap[o]? = some (.cells #[A, .slice none 0 0, .slice none 0 0, v3] 36 (0, 0)) := by rw [HB3.out.block o hol]; exact HOB.out
    have hbo2 := blk_set (i := 1) hbo (.slice (some ⟨g3, 0, none⟩) (0 + 1) c3)
    simp only [List.setIfInBounds_toArray, List.set_cons_succ, List.set_cons_zero] at hbo2
    have HOB2 := Box.mk hbo2
    have HF2 := Box.mk (HF1.out.trans ((Fr.of_below HB3.out).trans (hfo.mono (fun b _ e => by subst e; exact .inr rfl))))
    clear hfo hbo hbo2 q1 q2 o1 fo k1 k4
    generalize w3.setCell ⟨o, 1, none⟩ (.slice (some ⟨g3, 0, none⟩) (0 + 1) c3) = V2 at HA2 HOB2 HF2 ⊢
    obtain ⟨_, ht2, _⟩ := HA2.out.task i _ HTS.out
    have k4 := cell_blk ht2 4
    have f4 := free_blk ht2 4
    simp only [List.getElem?_toArray, List.getElem?_cons_zero, List.getElem?_cons_succ] at k4
    have hft : Fr (fun b => b = y.tp i) V2 (V2.setCell ⟨y.tp i, 4, none⟩ (.pointer none)) := Fr.setCell (F := fun b => b = y.tp i) (Fr.refl _ V2) (p := ⟨y.tp i, 4, none⟩) (.inl rfl) _
    have ht3 := blk_set (i := 4) ht2 (.pointer none)
    simp only [List.setIfInBounds_toArray, List.set_cons_succ, List.set_cons_zero] at ht3
    have hs3 : Same V2 (V2.setCell ⟨y.tp i, 4, none⟩ (.pointer none)) y.own y.own := ⟨fun _ _ => rfl, fun b hb => Nat.lt_of_lt_of_le (HA2.out.lt b hb) hft.size⟩
    have HA3 := Box.mk (HA2.out.task_upd (i := i) (p' := y.jp i) (t' := ⟨wk, none, bg, ls⟩) (own' := y.own) (hft.mono (fun b _ e => by subst e; exact .inl HTO.out)) hs3 (fun _ => ht3) (fun _ => trivial))
    have hot : o ≠ y.tp i := by intro e; have := HO.out; rw [e, HTO.out] at this; cases this
    have HOB3 := Box.mk (hft.blk HOB2.out hot)
    have HF3 := Box.mk (HF2.out.trans (hft.mono (fun b _ e => by subst e; exact .inl (by rw [HTO.out]; simp))))
    clear ht2 hft ht3 hs3
    go_upto_region 13 with fail
    clear k4 f4
    generalize V2.setCell ⟨y.tp i, 4, none⟩ (.pointer none) = V3 at HA3 HOB3 HF3 ⊢
    have c2 := HA3.out.c2
    have HGO := Box.mk (go_any y.q rs _ i V3 HA3.out.queue)
    go_wp2_with (go_at_call 44; refine HGO.out.mono ?_; rintro e w5 ⟨rfl, hq5⟩; obtain ⟨own5, ha5, hf5, hs5⟩ := HA3.out.q_call hq5; have HA5 := Box.mk ha5; have HF5 := Box.mk hf5; have HS5 := Box.mk hs5; clear hq5 ha5 hf5 hs5)
    go_ret
    refine ⟨rfl, .inl ⟨HRR.out.trans hde, ?_⟩⟩
    have hss : (T.set i ⟨wk, some ⟨de, R, dd, mi⟩, bg, ls⟩).set i ⟨wk, none, bg, ls⟩ = T.set i ⟨wk, none, bg, ls⟩ := List.set_set ..
    have ha6 := HA5.out
    simp only [hss] at ha6
    exact ⟨⟨{ y with own := own5, jp := upd y.jp i (y.jp i) }, rfl, ha6, HF3.out.trans' HF5.out (fun b _ e => .inl (by rw [show y.own b = _ from e]; simp)), ⟨fun b hb => HS5.out.1 b (Nat.lt_of_lt_of_le hb HF3.out.size), HS5.out.2⟩⟩, ⟨_, _, _, _, HF5.out.blk HOB3.out (fun e => by rw [HO.out] at e; cases e)⟩⟩
  · have ed : ((R : Int) == (de : Int)) = false := beq_eq_false_iff_ne.2 (by omega)
    by_cases hco : R = wk.cost
    · have ec : ((R : Int) == (wk.cost : Int)) = true := by simp [hco]
      have hol := lt_blk HOB.out
      have o2 := cell_blk HOB.out 2
      have fo := free_blk HOB.out 2
      simp only [List.getElem?_toArray, List.getElem?_cons_zero, List.getElem?_cons_succ] at o2
      have HO2 := Box.mk o2
      have HFO := Box.mk fo
      go_upto_region 12 with (at_builtin; refine wpList_append_lies _ rfl (.tmp 75) (.tmp 77) 34 rfl V.heap.size 3 i0 (.int .i64 0) 1 8 Try.underlying34 hi0 hz0 hz1 hz2 rfl (by decide) (.slice none 0 0) 0 [] rfl (World.ownsRow_nil _ _ _ _) ⟨V.heap.size, 0, none⟩ 1 1 [.int .i64 i] rfl rfl (World.news_of_block (cs := #[.int .i64 i]) (blk_new _ _)) HONE.out (by decide) (by unfold maxLen; decide) (by decide) (by simp) _ rfl ?_; intro g3 c3 w3 ho3 hg3 _ _; have hb3 : Below V.heap.size V w3 := ((Below.refl _ _).alloc (Nat.le_refl _) (.cells #[.int .i64 i] 3)).grown hg3 (by simp) (fun k e => by cases e); have HB3 := Box.mk hb3; have q1 := (hb3.cell (p := ⟨o, 2, none⟩) hol).trans HO2.out; have q2 := (hb3.frozen (p := ⟨o, 2, none⟩) hol).trans HFO.out; clear ho3 hg3 hb3)
      have hfo : Fr (fun b => b = o) w3 (w3.setCell ⟨o, 2, none⟩ (.slice (some ⟨g3, 0, none⟩) (0 + 1) c3)) := Fr.setCell (F := fun b => b = o) (Fr.refl _ w3) (p := ⟨o, 2, none⟩) (.inl rfl) _
      have HA2 := Box.mk ((HA1.out.later HB3.out).fr hfo (fun b hb e => by subst e; exact hb HO.out))
      have hbo : w3.heap[o]? = some (.cells #[A, .slice none 0 0, .slice none 0 0, v3] 36 (0, 0)) := by rw [HB3.out.block o hol]; exact HOB.out
      have hbo2 := blk_set (i := 2) hbo (.slice (some ⟨g3, 0, none⟩) (0 + 1) c3)
      simp only [List.setIfInBounds_toArray, List.set_cons_succ, List.set_cons_zero] at hbo2
      have HOB2 := Box.mk hbo2
      have HF2 := Box.mk (HF1.out.trans ((Fr.of_below HB3.out).trans (hfo.mono (fun b _ e => by subst e; exact .inr rfl))))
      clear hfo hbo hbo2 q1 q2 o2 fo k1 k4
      generalize w3.setCell ⟨o, 2, none⟩ (.slice (some ⟨g3, 0, none⟩) (0 + 1) c3) = V2 at HA2 HOB2 HF2 ⊢
      obtain ⟨_, ht2, _⟩ := HA2.out.task i _ HTS.out
      have k4 := cell_blk ht2 4
      have f4 := free_blk ht2 4
      simp only [List.getElem?_toArray, List.getElem?_cons_zero, List.getElem?_cons_succ] at k4
      have hft : Fr (fun b => b = y.tp i) V2 (V2.setCell ⟨y.tp i, 4, none⟩ (.pointer none)) := Fr.setCell (F := fun b => b = y.tp i) (Fr.refl _ V2) (p := ⟨y.tp i, 4, none⟩) (.inl rfl) _
      have ht3 := blk_set (i := 4) ht2 (.pointer none)
      simp only [List.setIfInBounds_toArray, List.set_cons_succ, List.set_cons_zero] at ht3
      have hs3 : Same V2 (V2.setCell ⟨y.tp i, 4, none⟩ (.pointer none)) y.own y.own := ⟨fun _ _ => rfl, fun b hb => Nat.lt_of_lt_of_le (HA2.out.lt b hb) hft.size⟩
      have HA3 := Box.mk (HA2.out.task_upd (i := i) (p' := y.jp i) (t' := ⟨wk, none, bg, ls⟩) (own' := y.own) (hft.mono (fun b _ e => by subst e; exact .inl HTO.out)) hs3 (fun _ => ht3) (fun _ => trivial))
      have hot : o ≠ y.tp i := by intro e; have := HO.out; rw [e, HTO.out] at this; cases this
      have HOB3 := Box.mk (hft.blk HOB2.out hot)
      have HF3 := Box.mk (HF2.out.trans (hft.mono (fun b _ e => by subst e; exact .inl (by rw [HTO.out]; simp))))
      clear ht2 hft ht3 hs3
      go_upto_region 13 with fail
      clear k4 f4
      generalize V2.setCell ⟨y.tp i, 4, none⟩ (.pointer none) = V3 at HA3 HOB3 HF3 ⊢
      have c2 := HA3.out.c2
      have HGO := Box.mk (go_any y.q rs _ i V3 HA3.out.queue)
      go_wp2_with (go_at_call 44; refine HGO.out.mono ?_; rintro e w5 ⟨rfl, hq5⟩; obtain ⟨own5, ha5, hf5, hs5⟩ := HA3.out.q_call hq5; have HA5 := Box.mk ha5; have HF5 := Box.mk hf5; have HS5 := Box.mk hs5; clear hq5 ha5 hf5 hs5)
      go_ret
      refine ⟨rfl, .inr (.inl ⟨fun e => hde (HRR.out.symm.trans e), HRR.out.trans hco, ?_⟩)⟩
      have hss : (T.set i ⟨wk, some ⟨de, R, dd, mi⟩, bg, ls⟩).set i ⟨wk, none, bg, ls⟩ = T.set i ⟨wk, none, bg, ls⟩ := List.set_set ..
      have ha6 := HA5.out
      simp only [hss] at ha6
      exact ⟨⟨{ y with own := own5, jp := upd y.jp i (y.jp i) }, rfl, ha6, HF3.out.trans' HF5.out (fun b _ e => .inl (by rw [show y.own b = _ from e]; simp)), ⟨fun b hb => HS5.out.1 b (Nat.lt_of_lt_of_le hb HF3.out.size), HS5.out.2⟩⟩, ⟨_, _, _, _, HF5.out.blk HOB3.out (fun e => by rw [HO.out] at e; cases e)⟩⟩
    · have ec : ((R : Int) == (wk.cost : Int)) = false := beq_eq_false_iff_ne.2 (by omega)
      have H1 : Box (ra + 1 ≠ de ∧ ra + 1 ≠ wk.cost) := ⟨⟨fun e => hde (HRR.out.symm.trans e), fun e => hco (HRR.out.symm.trans e)⟩⟩
      clear hde hco
      go_wp2
      go_ret
      refine ⟨rfl, .inr (.inr ⟨H1.out.1, H1.out.2, ⟨y, rfl, ?_, HF1.out, fun _ _ => rfl, HA1.out.lt⟩, _, _, _, _, HOB.out⟩)⟩
      rw [HJS.out]
      exact HA1.out

end Go.Proofs.Ytbedknfapiadbaa
