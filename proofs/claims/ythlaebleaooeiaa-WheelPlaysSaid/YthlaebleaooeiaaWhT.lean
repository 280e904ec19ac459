/-
  Two wheels in a law, and two rows of numbers that were told.
-/
import Derived.Test.YthlaebleaooeiaaWhS
import Derived.Test.YthlaebleaooeiaaWhRA
import Derived.Test.YthlaebleaooeiaaAppR
import Derived.Deep.QuietTactic
import Derived.BigQuiet
namespace Go.Proofs.Ythlaebleaooeiaa
open Go.RowKit

theorem Fr.row {B : Nat} {w w' : World} {v : Value} {out : List Nat} {G : Nat → Prop} (h : OutAt B w v out) (hf : Fr G w w') (hG : ∀ k, v.ownBlock = some k → ¬ G k) : OutAt B w' v out := h.later hf hG
theorem OutAt.nil (B : Nat) (w : World) : OutAt B w (.slice none 0 0) [] := ⟨none, 0, rfl, by simp [ints'], .inl ⟨rfl, rfl⟩⟩
theorem OutAt.lt {B : Nat} {w : World} {v : Value} {out : List Nat} (h : OutAt B w v out) {k : Nat} (hk : v.ownBlock = some k) : B ≤ k ∧ k < w.heap.size := by
  obtain ⟨_, _, _, hown⟩ := h
  exact ownsRow_lt hown hk
theorem OutAt.mono {B B' : Nat} {w : World} {v : Value} {out : List Nat} (h : OutAt B w v out) (hB : B' ≤ B) : OutAt B' w v out := by
  obtain ⟨a, c, e, hown⟩ := h
  exact ⟨a, c, e, ownsRow_mono hown hB⟩
/-- Two wheels, and two rows. -/
def P2 (w0 w : World) (pa na : Nat) (ga : Nat → Option Nat) (pb nb : Nat) (gb : Nat → Option Nat) (v : Value) (l : List Nat) (u : Value) (m : List Nat) : Prop :=
  ∃ Fa Fb, WT w pa na ga Fa ∧ WT w pb nb gb Fb ∧ (∀ k, Fa k → w0.heap.size ≤ k) ∧ (∀ k, Fb k → w0.heap.size ≤ k) ∧ Below w0.heap.size w0 w ∧ (∀ k, Fa k → ¬ Fb k) ∧
    OutAt w0.heap.size w v l ∧ OutAt w0.heap.size w u m ∧ (∀ k, v.ownBlock = some k → ¬ Fa k ∧ ¬ Fb k ∧ u.ownBlock ≠ some k) ∧ ∀ k, u.ownBlock = some k → ¬ Fa k ∧ ¬ Fb k
theorem P2.below {w0 w : World} {pa na pb nb : Nat} {ga gb : Nat → Option Nat} {v u : Value} {l m : List Nat} (h : P2 w0 w pa na ga pb nb gb v l u m) : Below w0.heap.size w0 w := by obtain ⟨_, _, _, _, _, _, h, _⟩ := h; exact h
theorem P2.symm {w0 w : World} {pa na pb nb : Nat} {ga gb : Nat → Option Nat} {v u : Value} {l m : List Nat} (h : P2 w0 w pa na ga pb nb gb v l u m) : P2 w0 w pb nb gb pa na ga v l u m := by
  obtain ⟨Fa, Fb, h1, h2, h3, h4, h5, h6, h7, h8, h9, h10⟩ := h
  exact ⟨Fb, Fa, h2, h1, h4, h3, h5, fun k hb ha => h6 k ha hb, h7, h8, fun k hk => ⟨(h9 k hk).2.1, (h9 k hk).1, (h9 k hk).2.2⟩, fun k hk => ⟨(h10 k hk).2, (h10 k hk).1⟩⟩
theorem P2.later {w0 w w' : World} {pa na pb nb : Nat} {ga gb : Nat → Option Nat} {v u : Value} {l m : List Nat} (h : P2 w0 w pa na ga pb nb gb v l u m) (hb : Below w.heap.size w w') : P2 w0 w' pa na ga pb nb gb v l u m := by
  have hf : Fr (fun _ => False) w w' := Fr.of_below hb
  obtain ⟨Fa, Fb, h1, h2, h3, h4, h5, h6, h7, h8, h9⟩ := h
  exact ⟨Fa, Fb, h1.fr hf (fun _ _ h => h), h2.fr hf (fun _ _ h => h), h3, h4, h5.trans (hb.mono h5.size), h6, h7.later hf (fun _ _ h => h), h8.later hf (fun _ _ h => h), h9⟩
theorem P2.facts {w0 w : World} {pa na pb nb : Nat} {ga gb : Nat → Option Nat} {v u : Value} {l m : List Nat} (h : P2 w0 w pa na ga pb nb gb v l u m) : na < 4611686018427387904 ∧ (∀ i a, ga i = some a → i < 1000 ∧ na < a ∧ a < 4611686018427387904) := by obtain ⟨_, _, h, _⟩ := h; exact h.facts
/-- The first wheel has done something. -/
theorem P2.step {w0 w w' : World} {pa pb nb na' : Nat} {gb ga' : Nat → Option Nat} {v u : Value} {l m : List Nat} {Fa Fb Fa' : Nat → Prop} (h2 : WT w pb nb gb Fb) (h3 : ∀ k, Fa k → w0.heap.size ≤ k) (h4 : ∀ k, Fb k → w0.heap.size ≤ k) (h5 : Below w0.heap.size w0 w) (h6 : ∀ k, Fa k → ¬ Fb k)
    (h7 : OutAt w0.heap.size w v l) (h8 : OutAt w0.heap.size w u m) (h9 : ∀ k, v.ownBlock = some k → ¬ Fa k ∧ ¬ Fb k ∧ u.ownBlock ≠ some k) (h10 : ∀ k, u.ownBlock = some k → ¬ Fa k ∧ ¬ Fb k)
    (hw : WT w' pa na' ga' Fa') (hf : Fr Fa w w') (hg : Gro Fa Fa' w) : P2 w0 w' pa na' ga' pb nb gb v l u m := by
  have hs := h5.size
  refine ⟨Fa', Fb, hw, h2.fr hf (fun k hk e => h6 k e hk), fun k hk => ?_, h4, h5.trans (hf.below h5.size (fun k _ e => h3 k e)), fun k hk hb => ?_, h7.later hf (fun k hk => (h9 k hk).1), h8.later hf (fun k hk => (h10 k hk).1), fun k hk => ⟨fun hF => ?_, (h9 k hk).2⟩, fun k hk => ⟨fun hF => ?_, (h10 k hk).2⟩⟩
  · rcases hg k hk with e | e
    · exact h3 k e
    · omega
  · rcases hg k hk with e | e
    · exact h6 k e hb
    · have := h2.lt hb; omega
  · rcases hg k hF with e | e
    · exact (h9 k hk).1 e
    · have := (h7.lt hk).2; omega
  · rcases hg k hF with e | e
    · exact (h10 k hk).1 e
    · have := (h8.lt hk).2; omega
section
variable (w0 w : World) (pa na : Nat) (ga : Nat → Option Nat) (pb nb : Nat) (gb : Nat → Option Nat) (v : Value) (l : List Nat) (u : Value) (m : List Nat) (h : P2 w0 w pa na ga pb nb gb v l u m)
include h
theorem p2_len : Calls Try.prog 13 #[.pointer (some ⟨pa, 0, none⟩)] w fun e w' => e = .returned (.int .i64 (cntT ga)) ∧ w = w' := by
  obtain ⟨Fa, Fb, h1, _⟩ := h
  exact wt_len pa na ga Fa w h1
theorem p2_set (id : Int) (a : Nat) (hk : kwf id) (ha : a ≤ 18446744073709551615) (c : Int) (g' : Nat → Option Nat) (hc : setC na id a = c) (hg : setT na ga id a = g') : Calls Try.prog 10 #[.pointer (some ⟨pa, 0, none⟩), .int .i64 id, .int .u64 a] w fun e w' => e = .returned (.int .i64 c) ∧ P2 w0 w' pa na g' pb nb gb v l u m := by
  subst hc; subst hg
  obtain ⟨Fa, Fb, h1, h2, h3, h4, h5, h6, h7, h8, h9, h10⟩ := h
  refine (wt_set pa na ga Fa w h1 id a hk ha).mono fun e w' hx => ?_
  obtain ⟨e1, F', hw, hf, hgr⟩ := hx
  exact ⟨e1, P2.step h2 h3 h4 h5 h6 h7 h8 h9 h10 hw hf hgr⟩
/-- A Go of the first one: its row takes the second row's place. -/
theorem p2_go (t : Nat) (e1 : na ≤ t) (e2 : t < 4611686018427387904) : Calls Try.prog 11 #[.pointer (some ⟨pa, 0, none⟩), .int .u64 t] w fun e w' => ∃ va out vc, e = .returned (.tuple #[.slice va (List.length out) vc, .int .i64 0]) ∧ GoT ga t out ∧ P2 w0 w' pa t (goneT ga t) pb nb gb v l (.slice va (List.length out) vc) out := by
  obtain ⟨Fa, Fb, h1, h2, h3, h4, h5, h6, h7, h8, h9, h10⟩ := h
  refine (wt_go pa na ga Fa w h1 t e1 e2).mono fun e w' hx => ?_
  obtain ⟨x, out, ex, hgo, hrow, F', hw', hf, hgr, hdj⟩ := hx
  obtain ⟨Fa', Fb', g1, g2, g3, g4, g5, g6, g7, g8, g9, g10⟩ := P2.step (u := .slice none 0 0) (m := []) h2 h3 h4 h5 h6 h7 (OutAt.nil _ _) (fun k hk => ⟨(h9 k hk).1, (h9 k hk).2.1, by simp [Value.ownBlock]⟩) (fun k hk => by simp [Value.ownBlock] at hk) hw' hf hgr
  have hr0 := hrow
  obtain ⟨va, vc, rfl, _⟩ := hrow
  have hs := h5.size
  refine ⟨va, out, vc, ex, hgo, F', Fb, hw', h2.fr hf (fun k hk e => h6 k e hk), fun k hk => ?_, h4, g5, fun k hk hb => ?_, g7, hr0.mono hs, fun k hk => ⟨fun hF => ?_, (h9 k hk).2.1, fun e => ?_⟩, fun k hk => ⟨hdj k hk, fun hb => ?_⟩⟩
  · rcases hgr k hk with e | e
    · exact h3 k e
    · omega
  · rcases hgr k hk with e | e
    · exact h6 k e hb
    · have := h2.lt hb; omega
  · rcases hgr k hF with e | e
    · exact (h9 k hk).1 e
    · have := (h7.lt hk).2; omega
  · have := (h7.lt hk).2
    have := (hr0.lt e).1
    omega
  · have := (hr0.lt hk).1
    have := h2.lt hb
    omega
/-- A Go of the first one, the rows staying. -/
theorem p2_go' (t : Nat) (e1 : na ≤ t) (e2 : t < 4611686018427387904) : Calls Try.prog 11 #[.pointer (some ⟨pa, 0, none⟩), .int .u64 t] w fun e w' => ∃ va out vc, e = .returned (.tuple #[.slice va (List.length out) vc, .int .i64 0]) ∧ GoT ga t out ∧ P2 w0 w' pa t (goneT ga t) pb nb gb v l u m ∧ OutAt w.heap.size w' (.slice va (List.length out) vc) out := by
  obtain ⟨Fa, Fb, h1, h2, h3, h4, h5, h6, h7, h8, h9, h10⟩ := h
  refine (wt_go pa na ga Fa w h1 t e1 e2).mono fun e w' hx => ?_
  obtain ⟨x, out, ex, hgo, hrow, F', hw', hf, hgr, hdj⟩ := hx
  have hr0 := hrow
  obtain ⟨va, vc, rfl, _⟩ := hrow
  exact ⟨va, out, vc, ex, hgo, P2.step h2 h3 h4 h5 h6 h7 h8 h9 h10 hw' hf hgr, hr0⟩
end
/-- The first row has grown by the second one. -/
theorem P2.grown {w0 w w' : World} {pa na pb nb : Nat} {ga gb : Nat → Option Nat} {v u : Value} {l m : List Nat} {ao : Option Addr} {n c : Nat} (h : P2 w0 w pa na ga pb nb gb v l u m) (hown : w'.ownsRow w0.heap.size 3 1 (.slice ao n c) n ((ints' (l ++ m)).map (Value.int .i64))) (hn : n = (l ++ m).length)
    (hg : w.grownBy w' v.ownBlock) (hat : (Value.slice ao n c).ownBlock = v.ownBlock ∨ (Value.slice ao n c).ownBlock = some w.heap.size) : P2 w0 w' pa na ga pb nb gb (.slice ao n c) (l ++ m) (.slice none 0 0) [] := by
  obtain ⟨Fa, Fb, h1, h2, h3, h4, h5, h6, h7, h8, h9, h10⟩ := h
  have hfr : Fr (fun k => v.ownBlock = some k) w w' := (Fr.refl _ _).grown hg (fun k e => .inl e)
  refine ⟨Fa, Fb, h1.fr hfr (fun k hk e => (h9 k e).1 hk), h2.fr hfr (fun k hk e => (h9 k e).2.1 hk), h3, h4, h5.trans (hfr.below h5.size (fun k _ e => (h7.lt e).1)), h6, ⟨ao, c, by rw [hn], by rw [← hn]; exact hown⟩, OutAt.nil _ _, fun k hk => ?_, fun k hk => by simp [Value.ownBlock] at hk⟩
  rcases hat with e | e
  · rw [e] at hk
    exact ⟨(h9 k hk).1, (h9 k hk).2.1, by simp [Value.ownBlock]⟩
  · rw [e] at hk
    simp only [Option.some.injEq] at hk
    subst hk
    exact ⟨fun hF => by have := h1.lt hF; omega, fun hF => by have := h2.lt hF; omega, by simp [Value.ownBlock]⟩
theorem P2.rowV {w0 w : World} {pa na pb nb : Nat} {ga gb : Nat → Option Nat} {v u : Value} {l m : List Nat} (h : P2 w0 w pa na ga pb nb gb v l u m) : OutAt w0.heap.size w v l ∧ OutAt w0.heap.size w u m := by
  obtain ⟨_, _, _, _, _, _, _, _, h7, h8, _⟩ := h
  exact ⟨h7, h8⟩
theorem OutAt.rowAt {B : Nat} {w : World} {v : Value} {out : List Nat} (h : OutAt B w v out) : RowAt w (fun k => v.ownBlock = some k) v out.length 1 ((ints' out).map (Value.int .i64)) := by
  obtain ⟨_, _, _, hown⟩ := h
  exact RowAt.of_owns hown
theorem OutAt.src {B : Nat} {w : World} {ao : Option Addr} {n c : Nat} {out : List Nat} (h : OutAt B w (.slice ao n c) out) (hn : n = out.length) : SrcAt w ao n ((ints' out).map (Value.int .i64)) := by
  subst hn
  obtain ⟨h1, h2⟩ := h.rowAt
  rcases h2 with ⟨e, h0⟩ | ⟨b, off, cap, e, _, _, _, hb, hc⟩
  · injection e with e1 _ _
    obtain rfl := List.length_eq_zero_iff.1 h0
    exact .inl ⟨e1, rfl, rfl⟩
  · injection e with e1 _ _
    subst e1
    exact .inr ⟨_, rfl, fun j u hu => by rw [addr_add]; exact ⟨hb, hc j u hu⟩⟩
theorem P2.new {w0 w1 w2 w3 : World} {pa pb : Nat} {Fa Fb : Nat → Prop} (h0 : Below w0.heap.size w0 w1) (a1 : WT w2 pa 0 (fun _ => none) Fa) (a2 : ∀ k, Fa k → w1.heap.size ≤ k) (a3 : Below w1.heap.size w1 w2) (b1 : WT w3 pb 0 (fun _ => none) Fb) (b2 : ∀ k, Fb k → w2.heap.size ≤ k) (b3 : Below w2.heap.size w2 w3) :
    P2 w0 w3 pa 0 (fun _ => none) pb 0 (fun _ => none) (.slice none 0 0) [] (.slice none 0 0) [] := by
  have s0 := h0.size
  have s1 := a3.size
  refine ⟨Fa, Fb, a1.fr (Fr.of_below (F := fun _ => False) b3) (fun _ _ h => h), b1, fun k hk => ?_, fun k hk => ?_, (h0.trans (a3.mono s0)).trans (b3.mono (by omega)), fun k ha hb => ?_, OutAt.nil _ _, OutAt.nil _ _, fun k hk => by simp [Value.ownBlock] at hk, fun k hk => by simp [Value.ownBlock] at hk⟩
  · have := a2 k hk; omega
  · have := b2 k hk; omega
  · have := a1.lt ha; have := b2 k hb; omega
theorem ints_get2 {l : List Int} {k : Nat} (h : k < l.length) : (ints l)[k]? = some (.int .i64 l[k]) := by simp [ints, h]
set_option maxHeartbeats 2000000 in
/-- 'Ints' at rows of the same numbers. -/
theorem rints_any (G G' : Nat → Prop) (a a' : Option Addr) (n c c' : Nat) (l : List Int) (w : World) (h : RowAt w G (.slice a n c) n 1 (ints l)) (h2 : RowAt w G' (.slice a' n c') n 1 (ints l)) (hn63 : n ≤ 1000000) :
    Calls Try.prog 12 #[.slice a n c, .slice a' n c'] w fun e w' => e = .returned (.bool true) ∧ Below w.heap.size w w' := by
  have hl := h.1
  have hln : l.length = n := by simpa using hl
  have hnn : ((n : Int) == (n : Int)) = true := by simp
  rcases h.2 with ⟨e1, h0⟩ | ⟨b, off, cap, e1, _, _, _, hb, hc⟩
  · obtain rfl := h0
    clear h h2 hl hln
    go_enter Try.func12, Try.ntmps12
    go_wp2
    refine wp_loop_rounds 1 ?_
    rw [rounds_succ]
    go_wp2
    go_ret
    exact ⟨rfl, Below.refl _ _⟩
  · rcases h2.2 with ⟨e2, h0⟩ | ⟨b', off', cap', e2, _, _, _, hb', hc'⟩
    · obtain rfl := h0
      clear h h2 hl hln hc
      go_enter Try.func12, Try.ntmps12
      go_wp2
      refine wp_loop_rounds 1 ?_
      rw [rounds_succ]
      go_wp2
      go_ret
      exact ⟨rfl, Below.refl _ _⟩
    · injection e1 with e1 _ e3
      injection e2 with e2 _ e4
      subst e1
      subst e2
      have HC := Lib.hid hc
      have HC2 := Lib.hid hc'
      have HL := Lib.hid hln
      clear h h2 hl hc hc' hln hnn e3 e4
      go_enter Try.func12, Try.ntmps12
      go_wp2
      go_loopw [5] (fun i wr => ∃ k : Nat, k ≤ n ∧ i = .int .i64 k ∧ Below w.heap.size w wr) (fun i _ => n - (intOf i).toNat)
      case atStart => exact ⟨0, Nat.zero_le _, rfl, Below.refl _ _⟩
      case round =>
        obtain ⟨k, hk, rfl, hbel⟩ := hrel
        have HB := Lib.hid hbel
        clear hbel
        by_cases hlt : k < n
        · have hlL : k < l.length := by rw [HL.out]; exact hlt
          have d0 := (HB.out.cell (p := ⟨b, off + k, none⟩) hb).trans (HC.out _ _ (ints_get2 hlL))
          have d1 := (HB.out.cell (p := ⟨b', off' + k, none⟩) hb').trans (HC2.out _ _ (ints_get2 hlL))
          generalize l[k] = y at d0 d1
          have hyy : (y == y) = true := by simp
          have hki : (k : Int) < n := by omega
          have hk0 : (0 : Int) ≤ k := by omega
          clear hlL
          go_wp2
          go_quiet (fail)
          go_wp2
          go_roundw
          case rel => exact ⟨k + 1, by omega, by go_num, by first | exact HB.out | exact HB.out.trans (Below.mono ⟨rfl, rfl, rfl, Nat.le_refl _, fun _ _ => rfl⟩ HB.out.size)⟩
          case measure => simp [intOf] <;> omega
        · go_wp2
          go_ret
          exact ⟨rfl, HB.out⟩

end Go.Proofs.Ythlaebleaooeiaa
