/-
  The walk of a book's Open where it opens.
-/
import Derived.Test.YtbodnmcaipakcaaLiF
namespace Go.Proofs.Ytbodnmcaipakcaa
open Go.RowKit Go.ChangeMaps Go.MapKept

theorem kwf_nat {t : Nat} (h : t ≤ 64) : kwf (t : Int) := kwf_of (by omega) (by omega)
set_option maxHeartbeats 32000000 in
set_option maxRecDepth 100000 in
theorem bopen_ok (p : Nat) (M : BM) (F : Nat → Prop) (w : World) (h : BAt w p M F) (id : Int) (dead : Nat) (hk : kwf id) (hc : M.openC id dead = 0) :
    Calls Try.prog 11 #[.pointer (some ⟨p, 0, none⟩), .int .i64 id, .int .u64 dead] w fun x w' => x = .returned (.int .i64 0) ∧ BPost w p (M.opened id dead) F w' := by
  obtain ⟨pw, ab, Fw, fv, h, hi, rfl⟩ := h
  have c2 := h.c2
  have hl := h.map.look_ok Try.underlying3 Try.underlying62 (Try.zeroEnt w) hk
  unfold BM.openC at hc
  have q1 : ¬ (id < 0 ∨ 65535 < id) := fun q => by rw [if_pos q] at hc; cases hc
  rw [if_neg q1] at hc
  have q2 : ¬ 4611686018427387904 ≤ dead := fun q => by rw [if_pos q] at hc; cases hc
  rw [if_neg q2] at hc
  have q3 : ¬ (M.op id).isSome = true := fun q => by rw [if_pos q] at hc; cases hc
  rw [if_neg q3] at hc
  have q4 : ¬ 64 ≤ M.keys.length := fun q => by rw [if_pos q] at hc; cases hc
  rw [if_neg q4] at hc
  have q5 : ¬ dead ≤ M.now + M.cost := fun q => by rw [if_pos q] at hc; cases hc
  have ho : M.op id = none := by cases e : M.op id with | none => rfl | some _ => rw [e] at q3; exact absurd rfl q3
  clear hc q3
  rw [ho] at hl
  replace hl : (Instr.lookup 62 (.map (some ab)) (.int .i64 id) true).run Try.prog w = .ok (.tuple #[.agg #[.int .i64 0, .int .u64 0], .bool false]) w := hl
  have HOP := Box.mk (hi.opened (id := id) (dead := dead) (by omega) (by omega) (by omega) ho (by omega) (by omega))
  obtain ⟨f1, f2⟩ := BM.free_of hi (by omega)
  have h1 := h.later ((Below.refl w.heap.size w).alloc (Nat.le_refl _) (.cells #[.int .i64 0, .int .u64 0] 68))
  have HF0 : Box (Fr (BF p ab Fw fv) w (w.alloc (.cells #[.int .i64 0, .int .u64 0] 68))) := ⟨(Fr.refl _ w).alloc _⟩
  have hln := h1.map.len Try.underlying3 Try.underlying62 3 hi.keys_nodup hi.keys_mem
  obtain ⟨K, hK⟩ : ∃ K, M.keys.length = K := ⟨_, rfl⟩
  rw [hK] at hln q4
  have k0 := h1.c0
  have k1 := h1.c1
  have k2 := h1.c2
  have HM := Box.mk (mayB_any dead true (decide_eq_true (by omega)))
  have HNO := Box.mk (fun n => wt_now pw M.now M.g Fw _ (h1.later (w' := (w.alloc (.cells #[.int .i64 0, .int .u64 0] 68)).drewN n) ⟨rfl, rfl, rfl, Nat.le_refl _, fun _ _ => rfl⟩).wh)
  have hcst := hi.cost
  have hnw := h.wh.facts.1
  have g1a : ¬ id < 0 := by omega
  have g1b : ¬ 65535 < id := by omega
  have g3i : ¬ (64 : Int) ≤ (K : Int) := by omega
  have g5i : ¬ (dead : Int) < (M.cost : Int) := by omega
  have hsub : IntKind.u64.wrap ((dead : Int) - (M.cost : Int)) = (dead : Int) - (M.cost : Int) := by rw [IntKind.wrap_u64]; omega
  have g6 : ¬ (dead : Int) - (M.cost : Int) ≤ (M.now : Int) := by omega
  have HNB := Box.mk (And.intro q2 q5)
  obtain ⟨tm, htm⟩ : ∃ tm, freeT M.us = tm := ⟨_, rfl⟩
  have HTM := Box.mk htm
  have H1 := Box.mk h1
  have HO := Box.mk ho
  have hnn : (M.now : Int) ≤ 4611686018427387904 := by omega
  clear h h1 hi ho hK q1 q2 q5 htm hnw
  go_enter Try.func11, Try.ntmps11
  go_upto_region 10 with (go_at_call 23; (with_reducible refine (HM.out _).mono ?_); rintro e w1 ⟨rfl, rfl⟩)
  clear hl hln c2 g5i
  have g5 : ¬ dead < M.cost := by have := HNB.out; omega
  have g5i : ¬ (dead : Int) < (M.cost : Int) := by omega
  have g5b : decide (dead < M.cost) = false := decide_eq_false g5
  generalize w.alloc (.cells #[.int .i64 0, .int .u64 0] 68) = w1 at H1 HF0 HNO k0 k1 k2 ⊢
  go_quiet ((go_at_call 24; exact Calls.quiet_of_same ((HNO.out _).mono (fun _ _ h => ⟨h.1, h.2.symm⟩))))
  have H2 := Box.mk (H1.out.later (w' := w1.drewN nq) ⟨rfl, rfl, rfl, Nat.le_refl _, fun _ _ => rfl⟩)
  have HF2 := Box.mk (HF0.out.drewN nq)
  generalize w1.drewN nq = w2 at H2 HF2 ⊢
  clear k0 k1 k2 HNO g3i g1a g1b H1 HF0 g6
  have g6 : ¬ (dead : Int) - (M.cost : Int) ≤ (M.now : Int) := by have := HNB.out; omega
  have HT := btimer_any w2 p _ _ _ _ _ _ _ _ _ _ _ _ H2.out
  rw [HTM.out] at HT
  have HT := Box.mk HT
  have k0 := H2.out.c0
  have k1 := H2.out.c1
  go_upto_region 13 with (go_at_call 25; (with_reducible refine HT.out.mono ?_); rintro e w3 ⟨rfl, rfl⟩)
  clear HT g6
  obtain ⟨a0, ha0⟩ : ∃ a0, dead - M.cost = a0 := ⟨_, rfl⟩
  have ha0i : (dead : Int) - (M.cost : Int) = (a0 : Int) := by omega
  have hsub2 : IntKind.u64.wrap ((dead : Int) - (M.cost : Int)) = (a0 : Int) := hsub.trans ha0i
  clear hsub
  have HA0 := Box.mk ha0
  have hcc : setC M.now (tm : Int) a0 = 0 := setC_zero.2 (by have := HNB.out; have := HTM.out; omega)
  have HST := Box.mk (wt_set pw M.now M.g Fw _ H2.out.drew.wh tm a0 (kwf_nat (by have := HTM.out; omega)) (by have := HNB.out; omega))
  rw [hcc] at HST
  clear ha0 hcc ha0i
  go_cut [] (fun wx => Box (WTPost w2.drew pw M.now (setT M.now M.g (tm : Int) a0) Fw wx))
  case first =>
    go_region_held3 (fun w' => w'.cell? ⟨p, 0, none⟩ = some (.int .u64 M.cost) ∧ w'.cell? ⟨p, 1, none⟩ = some (.pointer (some ⟨pw, 0, none⟩))) (simp [*])
      ((go_at_call 26; (with_reducible refine HST.out.mono ?_); rintro e w4 ⟨rfl, hs⟩; have y1 := cpost hs H2.out.drew; have y2 := cpost0 hs H2.out.drew; have HS := Box.mk hs; clear hs))
    all_goals
      go_wp2
      go_meet
      exact HS
  case rest =>
    have HS := hcut
    rename World => w4
    obtain ⟨Fw', hw4, hf4, hg4⟩ := HS.out
    obtain ⟨h4, hgr4⟩ := H2.out.drew.wheel hw4 hf4 hg4
    have H4 := Box.mk h4
    have HF4 : Box (Fr (BF p ab Fw fv) w w4) := ⟨HF2.out.drew.trans (hf4.mono (fun k _ h => .inr (.inr (.inl h))))⟩
    have HG4 : Box (Gro (BF p ab Fw fv) (BF p ab Fw' fv) w) := ⟨fun k hk => by
      rcases hgr4 k hk with e | e
      · exact .inl e
      · have h1 := HF2.out.size
        have h2 : w2.drew.heap.size = w2.heap.size := rfl
        exact .inr (by omega)⟩
    clear hw4 hf4 hg4 h4 hgr4 HS HST k0 k1 hsub2 g5 g5i g5b
    have ht64 : tm < 64 := by have := HTM.out; omega
    have h5 := ((H4.out.setUsed ht64 true).setIds ht64 id).drew
    obtain ⟨v0, st, w6, w7, rme, res, hm7, hf7⟩ := h5.map.entry Try.underlying3 Try.underlying62 Try.zeroEnt (by omega) hk ⟨tm, dead⟩
    replace res : (Instr.entryStore 62 (.map (some ab)) (.int .i64 st) (.agg #[.int .i64 tm, .int .u64 dead])).run Try.prog w6 = .ok () w7 := res
    have H7 := Box.mk (h5.setMap hm7 hf7)
    have HF7 : Box (Fr (BF p ab Fw fv) w w7) := ⟨(HF4.out.trans (((fr_cell w4 p (67 + tm) (.bool true)).trans (fr_cell _ p (3 + tm) (.int .i64 id))).drew.mono (fun k _ e => .inl e))).trans (hf7.mono (fun k _ e => .inr (.inl e)))⟩
    have k2 := H4.out.c2
    have c67 := H4.out.cUsed ht64
    have f67 := H4.out.free (67 + tm)
    have c3 := (H4.out.setUsed ht64 true).cIds ht64
    have f3 := (H4.out.setUsed ht64 true).free (3 + tm)
    have hti : (tm : Int) < 64 := by omega
    have hti0 : (0 : Int) ≤ tm := by omega
    clear h5 hm7 hf7 f1 f2 ht64
    go_upto_region 14 with fail
    go_region
    all_goals
      go_wp2
      go_ret
      refine ⟨rfl, BF p ab Fw' fv, ⟨pw, ab, Fw', fv, ?_, HOP.out.1, rfl⟩, HF7.out, HG4.out⟩
      have hr := H7.out
      rw [← HTM.out, ← HA0.out, HOP.out.2] at hr
      have hm := (hr.map.tight (f := (M.opened id dead).op) Try.underlying3 HOP.out.1.keys_nodup HOP.out.1.keys_mem).mono (BM.keys_len _)
      exact { hr with map := hm }

end Go.Proofs.Ytbodnmcaipakcaa
