/-
  The walk of a book's Open.
-/
import Derived.Test.YtbodnmcaipakcaaLiE
import Derived.RegionTactic
import Derived.BigRegion
namespace Go.Proofs.Ytbodnmcaipakcaa
open Go.RowKit Go.ChangeMaps Go.MapKept

/-- What Open answers. -/
def BM.openC (M : BM) (id : Int) (dead : Nat) : Int :=
  if id < 0 ∨ 65535 < id then 1 else if 4611686018427387904 ≤ dead then 2 else if (M.op id).isSome then 7 else if 64 ≤ M.keys.length then 4 else if dead ≤ M.now + M.cost then 11 else 0
/-- A request more. -/
def BM.opened (M : BM) (id : Int) (dead : Nat) : BM := ⟨M.cost, M.now, at1 M.op id (some ⟨freeT M.us, dead⟩), fun i => if i = freeT M.us then id else M.ids i, fun i => if i = freeT M.us then true else M.us i, M.fs⟩
def BM.openM (M : BM) (id : Int) (dead : Nat) : BM := if M.openC id dead = 0 then M.opened id dead else M
theorem BM.free_of {M : BM} (h : BInv M) (hk : M.keys.length < 64) : freeT M.us < 64 ∧ M.us (freeT M.us) = false := by
  rcases freeT_spec M.us with ⟨_, h2⟩ | h2
  · exfalso
    have : (List.range 64).filter M.us = List.range 64 := List.filter_eq_self.2 (fun t ht => h2 t (List.mem_range.1 ht))
    unfold BM.keys at hk
    rw [this] at hk
    simp at hk
  · exact h2
theorem BInv.opened {M : BM} (h : BInv M) {id : Int} {dead : Nat} (h0 : 0 ≤ id) (h1 : id ≤ 65535) (h2 : dead < 4611686018427387904) (h3 : M.op id = none) (hk : M.keys.length < 64) (h4 : M.now + M.cost < dead) :
    BInv (M.opened id dead) ∧ setT M.now M.g (freeT M.us : Int) (dead - M.cost) = (M.opened id dead).g := by
  obtain ⟨f1, f2⟩ := BM.free_of h hk
  have hidne : ∀ t, M.us t = true → M.ids t ≠ id := fun t ht hc => by
    obtain ⟨_, d, e⟩ := h.used t ht
    rw [hc, h3] at e; cases e
  refine ⟨⟨h.cost, fun t ht => ?_, fun x y hx => ?_⟩, ?_⟩
  · simp only [BM.opened] at ht ⊢
    by_cases e : t = freeT M.us
    · rw [if_pos e]
      exact ⟨by omega, dead, by rw [at1_same, e]⟩
    · rw [if_neg e] at ht ⊢
      obtain ⟨g1, d, g2⟩ := h.used t ht
      exact ⟨g1, d, by rw [at1_ne _ _ (hidne t ht)]; exact g2⟩
  · simp only [BM.opened] at hx ⊢
    by_cases e : x = id
    · subst e
      rw [at1_same] at hx
      simp only [Option.some.injEq] at hx
      subst hx
      simp only [if_true]
      exact ⟨h0, h1, trivial, trivial, by omega, h2⟩
    · rw [at1_ne _ _ e] at hx
      obtain ⟨g1, g2, g3, g4, g5, g6⟩ := h.opn x y hx
      have hne : y.tm ≠ freeT M.us := fun hc => by rw [hc, f2] at g3; cases g3
      rw [if_neg hne, if_neg hne]
      exact ⟨g1, g2, g3, g4, g5, g6⟩
  · unfold setT
    have hc := h.cost
    rw [if_pos (setC_zero.2 (by omega)), Int.toNat_natCast]
    show updT (goneT M.g0 M.now) (freeT M.us) (some (dead - M.cost)) = goneT (M.opened id dead).g0 M.now
    rw [updT_gone _ _ _ _ (fun a h => by simp only [Option.some.injEq] at h; omega)]
    congr 1
    funext t
    unfold updT BM.g0 BM.opened
    simp only
    by_cases e : t = freeT M.us
    · rw [if_pos e, if_pos e, if_pos rfl, if_pos e, at1_same]; rfl
    · rw [if_neg e, if_neg e, if_neg e]
      cases hu : M.us t with
      | false => rfl
      | true =>
        simp only [if_true]
        rw [at1_ne _ _ (hidne t hu)]
theorem mayB_any (t : Nat) (b : Bool) (hb : decide (t < 4611686018427387904) = b) (w : World) : Calls Try.prog 23 #[.int .u64 t] w fun e w' => e = .returned (.bool b) ∧ w = w' := by
  subst hb
  by_cases h : t < 4611686018427387904
  · rw [decide_eq_true h]; exact tickMay_yes t h w
  · rw [decide_eq_false h]; exact tickMay_no t h w
set_option maxHeartbeats 16000000 in
set_option maxRecDepth 100000 in
theorem bopen_bad (p : Nat) (M : BM) (F : Nat → Prop) (w : World) (h : BAt w p M F) (id : Int) (dead : Nat) (hk : kwf id) (hd : dead ≤ 18446744073709551615) (c : Int) (hc : M.openC id dead = c) (h0 : c ≠ 0) :
    Calls Try.prog 11 #[.pointer (some ⟨p, 0, none⟩), .int .i64 id, .int .u64 dead] w fun x w' => x = .returned (.int .i64 c) ∧ Below w.heap.size w w' := by
  obtain ⟨pw, ab, Fw, fv, h, hi, -⟩ := h
  have c2 := h.c2
  have hl := h.map.look_ok Try.underlying3 Try.underlying62 (Try.zeroEnt w) hk
  obtain ⟨o, ho⟩ : ∃ o, M.op id = o := ⟨_, rfl⟩
  obtain ⟨v1, hv1⟩ : ∃ v : Ent, ((M.op id).getD ⟨0, 0⟩) = v := ⟨_, rfl⟩
  obtain ⟨b1, hb1⟩ : ∃ b : Bool, (M.op id).isSome = b := ⟨_, rfl⟩
  obtain ⟨et, ed⟩ := v1
  rw [hv1, hb1] at hl
  replace hl : (Instr.lookup 62 (.map (some ab)) (.int .i64 id) true).run Try.prog w = .ok (.tuple #[.agg #[.int .i64 et, .int .u64 ed], .bool b1]) w := hl
  have h1 := h.later ((Below.refl w.heap.size w).alloc (Nat.le_refl _) (.cells #[.int .i64 et, .int .u64 ed] 68))
  have HB := Box.mk ((Below.refl w.heap.size w).alloc (Nat.le_refl _) (.cells #[.int .i64 et, .int .u64 ed] 68))
  have hln := h1.map.len Try.underlying3 Try.underlying62 3 hi.keys_nodup hi.keys_mem
  obtain ⟨K, hK⟩ : ∃ K, M.keys.length = K := ⟨_, rfl⟩
  have hK64 : K ≤ 64 := by rw [← hK]; exact M.keys_len
  rw [hK] at hln
  have k0 := h1.c0
  have k1 := h1.c1
  have k2 := h1.c2
  have HMY := Box.mk (fun b hb w => mayB_any dead b hb w)
  have HNO := Box.mk (fun n => wt_now pw M.now M.g Fw _ (h1.later (w' := (w.alloc (.cells #[.int .i64 et, .int .u64 ed] 68)).drewN n) ⟨rfl, rfl, rfl, Nat.le_refl _, fun _ _ => rfl⟩).wh)
  have HNO1 := Box.mk (wt_now pw M.now M.g Fw _ h1.wh)
  have hcst := hi.cost
  have hnw := h.wh.facts.1
  unfold BM.openC at hc
  rw [hb1, hK] at hc
  clear h h1 hi ho hv1 hb1 hK
  generalize M.cost = cost at hc k0 hcst
  generalize M.now = now at hc HNO HNO1 hnw
  by_cases g1 : id < 0 ∨ 65535 < id
  · rw [if_pos g1] at hc
    subst hc
    clear h0 HNO HNO1 hln
    by_cases g2 : id < 0
    · go_enter Try.func11, Try.ntmps11
      go_wp2
      go_ret
      exact ⟨rfl, HB.out⟩
    · have g3 : 65535 < id := by omega
      go_enter Try.func11, Try.ntmps11
      go_wp2
      go_ret
      exact ⟨rfl, HB.out⟩
  · rw [if_neg g1] at hc
    have g1a : ¬ id < 0 := by omega
    have g1b : ¬ 65535 < id := by omega
    by_cases g2 : 4611686018427387904 ≤ dead
    · rw [if_pos g2] at hc
      subst hc
      have HM := Box.mk (HMY.out false (decide_eq_false (by omega)))
      clear h0 HNO HNO1 hln HMY g1 g2 hd
      go_enter Try.func11, Try.ntmps11
      go_wp2_with (go_at_call 23; (with_reducible refine (HM.out _).mono ?_); rintro e w1 ⟨rfl, rfl⟩)
      go_ret
      exact ⟨rfl, HB.out⟩
    · rw [if_neg g2] at hc
      have HM := Box.mk (HMY.out true (decide_eq_true (by omega)))
      have hd62 : dead < 4611686018427387904 := by omega
      clear HMY g1 g2
      cases b1 with
      | true =>
        rw [if_pos rfl] at hc
        subst hc
        clear h0 HNO HNO1 hln hd hd62
        go_enter Try.func11, Try.ntmps11
        go_wp2_with (go_at_call 23; (with_reducible refine (HM.out _).mono ?_); rintro e w1 ⟨rfl, rfl⟩)
        go_ret
        exact ⟨rfl, HB.out⟩
      | false =>
        rw [if_neg (by decide)] at hc
        by_cases g3 : 64 ≤ K
        · rw [if_pos g3] at hc
          subst hc
          have g3i : (64 : Int) ≤ (K : Int) := by omega
          clear h0 HNO HNO1 hd hd62
          go_enter Try.func11, Try.ntmps11
          go_wp2_with (go_at_call 23; (with_reducible refine (HM.out _).mono ?_); rintro e w1 ⟨rfl, rfl⟩)
          go_ret
          exact ⟨rfl, HB.out⟩
        · rw [if_neg g3] at hc
          have g3i : ¬ (64 : Int) ≤ (K : Int) := by omega
          by_cases g4 : dead ≤ now + cost
          · rw [if_pos g4] at hc
            subst hc
            by_cases g5 : dead < cost
            · have g5i : (dead : Int) < (cost : Int) := by omega
              clear h0 HNO1
              go_enter Try.func11, Try.ntmps11
              go_upto_region 10 with (go_at_call 23; (with_reducible refine (HM.out _).mono ?_); rintro e w1 ⟨rfl, rfl⟩)
              go_quiet (fail)
              go_wp2
              go_ret
              exact ⟨rfl, HB.out.trans ⟨rfl, rfl, rfl, Nat.le_refl _, fun _ _ => rfl⟩⟩
            · have g5i : ¬ (dead : Int) < (cost : Int) := by omega
              have hsub : IntKind.u64.wrap ((dead : Int) - (cost : Int)) = (dead : Int) - (cost : Int) := by rw [IntKind.wrap_u64]; omega
              have g6 : (dead : Int) - (cost : Int) ≤ (now : Int) := by omega
              clear h0 HNO1
              go_enter Try.func11, Try.ntmps11
              go_upto_region 10 with (go_at_call 23; (with_reducible refine (HM.out _).mono ?_); rintro e w1 ⟨rfl, rfl⟩)
              go_quiet ((go_at_call 24; exact Calls.quiet_of_same ((HNO.out _).mono (fun _ _ h => ⟨h.1, h.2.symm⟩))))
              go_wp2
              go_ret
              exact ⟨rfl, HB.out.trans ⟨rfl, rfl, rfl, Nat.le_refl _, fun _ _ => rfl⟩⟩
          · rw [if_neg g4] at hc
            exact absurd hc.symm h0

end Go.Proofs.Ytbodnmcaipakcaa
