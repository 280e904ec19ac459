/-
  The processor in a law: what stands all along, with the law's own blocks beside it; the contracts in that form.
-/
import Derived.Test.YtbedknfapiadbaaCpuP
namespace Go.Proofs.Ytbedknfapiadbaa
open Go.RowKit

/-- A processor that the law has made at c, in a world behind w0; X: blocks of the law's own, known whole. -/
def CSt (w0 w : World) (c : Nat) (M : CpuM) (X : List (Nat × Obj)) : Prop :=
  ∃ y, y.c = c ∧ CpuAt w y M ∧ (∀ b, y.own b ≠ none → w0.heap.size ≤ b) ∧ Below w0.heap.size w0 w ∧ ∀ p ∈ X, w.heap[p.1]? = some p.2 ∧ y.own p.1 = none
theorem CSt.below {w0 w : World} {c : Nat} {M : CpuM} {X : List (Nat × Obj)} (h : CSt w0 w c M X) : Below w0.heap.size w0 w := by obtain ⟨_, _, _, _, h, _⟩ := h; exact h
theorem CSt.blk {w0 w : World} {c : Nat} {M : CpuM} {X : List (Nat × Obj)} (h : CSt w0 w c M X) {p : Nat × Obj} (hp : p ∈ X) : w.heap[p.1]? = some p.2 := by obtain ⟨_, _, _, _, _, h⟩ := h; exact (h p hp).1
theorem CSt.later {w0 w w' : World} {c : Nat} {M : CpuM} {X : List (Nat × Obj)} (h : CSt w0 w c M X) (hb : Below w.heap.size w w') : CSt w0 w' c M X := by
  obtain ⟨y, h1, h2, h3, h4, h5⟩ := h
  exact ⟨y, h1, h2.later hb, h3, h4.trans (hb.mono h4.size), fun p hp => ⟨by rw [hb.block p.1 (lt_blk (h5 p hp).1)]; exact (h5 p hp).1, (h5 p hp).2⟩⟩
theorem CSt.alloc {w0 w : World} {c : Nat} {M : CpuM} {X : List (Nat × Obj)} (h : CSt w0 w c M X) (O : Obj) : CSt w0 (w.alloc O) c M ((w.heap.size, O) :: X) := by
  have h' := h.later ((Below.refl _ _).alloc (Nat.le_refl _) O)
  obtain ⟨y, h1, h2, h3, h4, h5⟩ := h
  obtain ⟨y', g1, g2, g3, g4, g5⟩ := h'
  refine ⟨y, h1, h2.later ((Below.refl _ _).alloc (Nat.le_refl _) O), h3, g4, fun p hp => ?_⟩
  rcases List.mem_cons.1 hp with e | e
  · subst e
    refine ⟨blk_new w O, ?_⟩
    cases e : y.own w.heap.size with
    | none => rfl
    | some x => exact absurd (h2.lt _ (by rw [e]; simp)) (by omega)
  · exact ⟨blk_alloc (h5 p e).1, (h5 p e).2⟩
theorem CSt.post {w0 w w' : World} {y : Lay} {M M' : CpuM} {X : List (Nat × Obj)} (h2 : CpuAt w y M) (h3 : ∀ b, y.own b ≠ none → w0.heap.size ≤ b) (h4 : Below w0.heap.size w0 w) (h5 : ∀ p ∈ X, w.heap[p.1]? = some p.2 ∧ y.own p.1 = none) (h : CPost w y M' w') : CSt w0 w' y.c M' X := by
  obtain ⟨y', a, b, c, d⟩ := h
  refine ⟨y', a, b, fun k hk => ?_, h4.trans (c.below h4.size (fun k _ e => h3 k e)), fun p hp => ⟨c.blk (h5 p hp).1 (fun e => e (h5 p hp).2), (d.1 p.1 (lt_blk (h5 p hp).1)).trans (h5 p hp).2⟩⟩
  by_cases hlt : k < w.heap.size
  · rw [d.1 k hlt] at hk; exact h3 k hk
  · have := h4.size; omega

section
variable (w0 w : World) (c : Nat) (M : CpuM) (X : List (Nat × Obj)) (h : CSt w0 w c M X)
include h
theorem cnow_st : Calls Try.prog 22 #[.pointer (some ⟨c, 0, none⟩)] w fun e w' => e = .returned (.int .u64 M.now) ∧ CSt w0 w' c M X := by
  have h0 := h
  obtain ⟨y, rfl, h2, _⟩ := h
  exact (now_any y M w h2).mono fun e w' hx => ⟨hx.1, hx.2 ▸ h0⟩
theorem cwork_st (i : Int) : Calls Try.prog 13 #[.pointer (some ⟨c, 0, none⟩), .int .i64 i] w fun e w' => e = .returned (.int .u64 (M.work i)) ∧ CSt w0 w' c M X := by
  have h0 := h
  obtain ⟨y, rfl, h2, _⟩ := h
  exact (work_of_any y M i w h2).mono fun e w' hx => ⟨hx.1, hx.2 ▸ h0⟩
theorem cwake_st (i : Int) (n : Nat) (hw : ∀ s ∈ M.servers, s.work ≤ 1048576) (hn : n ≤ 9223372036854775807) : Calls Try.prog 12 #[.pointer (some ⟨c, 0, none⟩), .int .i64 i, .int .u64 n] w fun e w' => e = .returned (.int .i64 (M.wakeC i)) ∧ CSt w0 w' c (M.wake i n) X := by
  obtain ⟨y, rfl, h2, h3, h4, h5⟩ := h
  exact (wake_any y M i n w h2 hw hn).mono fun e w' hx => ⟨hx.1, CSt.post h2 h3 h4 h5 hx.2⟩
theorem cjob_st (i : Int) : Calls Try.prog 20 #[.pointer (some ⟨c, 0, none⟩), .int .i64 i] w fun e w' => e = .returned (jobR (M.jobOf i)) ∧ CSt w0 w' c M X := by
  have h0 := h
  obtain ⟨y, rfl, h2, _⟩ := h
  exact (job_any y M i w h2).mono fun e w' hx => ⟨hx.1, h0.later hx.2⟩
/-- What Release answers, and what it leaves. -/
def CpuM.relC (M : CpuM) (i : Int) (d : Nat) : Int := match M.relK i d with | .arg => 1 | .state => 12 | .denied => 11 | .go t k => comeC M.rows k t.wk.prio
def CpuM.rel (M : CpuM) (i : Int) (d : Nat) : CpuM := match M.relK i d with | .go t k => M.released t k d | _ => M
theorem crelease_st (i : Int) (d : Nat) (hwk : ∀ t ∈ M.tasks, t.wk.dead ≤ 1073741824 ∧ t.last ≤ M.now) (hnow : M.now ≤ 2305843009213693952) (hlen : ∀ p, (M.rows p).length ≤ 1000000) :
    Calls Try.prog 19 #[.pointer (some ⟨c, 0, none⟩), .int .i64 i, .int .u64 d] w fun e w' => e = .returned (.int .i64 (M.relC i d)) ∧ CSt w0 w' c (M.rel i d) X := by
  obtain ⟨y, rfl, h2, h3, h4, h5⟩ := h
  refine (release_any y M i d w h2 hwk hnow hlen).mono fun e w' hx => ?_
  unfold RelPost at hx
  unfold CpuM.relC CpuM.rel
  cases hk : M.relK i d <;> rw [hk] at hx <;> exact ⟨hx.1, CSt.post h2 h3 h4 h5 hx.2⟩
/-- What a tick tells: who, and how many are done, cut off, late. -/
theorem ctick_st (hok : CpuOk M) : Calls Try.prog 14 #[.pointer (some ⟨c, 0, none⟩)] w fun e w' => ∃ M1 who nd nc a1 c1 a2 c2 a3 c3, RanM M M1 who nd nc ∧
    e = .returned (.tuple #[.agg #[.int .i64 who, .slice a1 nd c1, .slice a2 nc c2, .slice a3 (lateIds (M.now + 1) M1.tasks M1.tasks.length).length c3], .int .i64 0]) ∧ CSt w0 w' c (M1.after (M.now + 1)) X := by
  obtain ⟨y, rfl, h2, h3, h4, h5⟩ := h
  refine (tick_any y M w h2 hok).mono fun e w' hx => ?_
  obtain ⟨M1, who, nd, nc, a1, c1, a2, c2, a3, c3, hr, he, hp⟩ := hx
  exact ⟨M1, who, nd, nc, a1, c1, a2, c2, a3, c3, hr, he, CSt.post h2 h3 h4 h5 hp⟩
end
theorem CSt.of_new {w0 w w' : World} {c n m : Nat} {y : Lay} {ts : List WorkM} {ls : List ServM} (h : NSt w w' c y ts ls n m) (hb : Below w0.heap.size w0 w) : CSt w0 w' c (newM ts ls) [] :=
  ⟨y, h.hc, h.at', fun b hbn => Nat.le_trans hb.size (h.low b hbn), hb.trans (h.bel.mono hb.size), fun p hp => by cases hp⟩

end Go.Proofs.Ytbedknfapiadbaa
