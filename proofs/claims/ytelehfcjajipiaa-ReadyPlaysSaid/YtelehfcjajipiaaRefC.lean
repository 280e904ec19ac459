/-
  The document's 'Come' and 'Change', over rows; both queues side by side.
-/
import Derived.Test.YtelehfcjajipiaaRefNone
import Derived.Test.YtelehfcjajipiaaRefSome
import Derived.Test.YtelehfcjajipiaaRefGo
namespace Go.Proofs.Ytelehfcjajipiaa.readyPlays
open Go.RowKit Go.Proofs.Ytelehfcjajipiaa

theorem come_at' {r : Nat → List Int} {x : Int} {p N : Nat} (hp : p < N) : ∀ i, i ≤ (catM r N).length → (∀ (j : Nat) (hj : j < (catM r N).length), j < i → (catM r N)[j].prio ≤ p) → (∀ hl : i < (catM r N).length, (p : Int) < ((catM r N)[i]'hl).prio) →
    (catM r N).take i ++ [⟨x, (p : Int)⟩] ++ (catM r N).drop i = catM (upd r p (r p ++ [x])) N := fun _ h1 h2 h3 => come_at hp h1 h2 h3
/-- The document's 'Come', over rows. -/
theorem rcome_any (p : Nat) (r : Nat → List Int) (G : Nat → Prop) (id pr : Int) (w : World) (h : RQ w p (catM r 101) G) (hlen : (catM r 101).length ≤ 1000000) :
    Calls Try.prog 14 #[.pointer (some ⟨p, 0, none⟩), .int .i64 id, .int .i64 pr] w (RPost w p (catM (come r id pr) 101) G (comeC r id pr)) := by
  have H := Lib.hid h
  by_cases hm : mayB id pr = true
  · by_cases hf : 0 ≤ idx id (ids (catM r 101))
    · have HR : Box (comeC r id pr = 7 ∧ come r id pr = r) := by
        have h1 : comeC r id pr = 7 := by unfold comeC; rw [if_pos hm, if_pos (find_in.1 hf)]
        exact ⟨h1, by unfold come; rw [if_neg (by omega)]⟩
      obtain ⟨i, hi⟩ : ∃ i, idx id (ids (catM r 101)) = i := ⟨_, rfl⟩
      have HI := Lib.hid hi
      rw [hi] at hf
      clear h hi
      go_enter Try.func14, Try.ntmps14
      go_wp2_with (first
        | (go_at_call 26; refine (rmay_any id pr _).mono ?_; rintro e w1 ⟨rfl, rfl⟩; rw [hm])
        | (go_at_call 27; refine (rfind_any p (catM r 101) G id _ H.out).mono ?_; rintro e w1 ⟨rfl, rfl⟩; rw [HI.out]))
      go_ret
      rw [HR.out.1, HR.out.2]
      exact ⟨rfl, G, H.out, Fr.refl _ _, Gro.refl _ _⟩
    · have hns : (prio r id).isSome = false := Bool.eq_false_iff.2 (fun e => hf (find_in.2 e))
      have hcc : comeC r id pr = 0 := by unfold comeC; rw [if_pos hm, if_neg (by rw [hns]; simp)]
      have hm2 := mayB_iff.1 hm
      obtain ⟨P, hP⟩ : ∃ P : Nat, pr = P := ⟨pr.toNat, by omega⟩
      subst hP
      have HR : Box (comeC r id P = 0 ∧ come r id P = upd r P (r P ++ [id])) := ⟨hcc, by unfold come; rw [if_pos hcc]; simp⟩
      have hPl : P < 101 := by omega
      rw [HR.out.1, HR.out.2]
      obtain ⟨a, c, hb, hr⟩ := h.at'
      rcases hr with hr | hr
      · exact rcome_none p _ _ G id P w h a c hb hr hlen hm hf (come_at' hPl)
      · exact rcome_some p _ _ G id P w h a c hb hr hlen hm hf (come_at' hPl)
  · have HR : Box (comeC r id pr = 1 ∧ come r id pr = r) := by
      have h1 : comeC r id pr = 1 := by unfold comeC; rw [if_neg hm]
      exact ⟨h1, by unfold come; rw [if_neg (by omega)]⟩
    clear h
    go_enter Try.func14, Try.ntmps14
    go_wp2_with (go_at_call 26; refine (rmay_any id pr _).mono ?_; rintro e w1 ⟨rfl, rfl⟩; rw [Bool.eq_false_iff.2 hm])
    go_ret
    rw [HR.out.1, HR.out.2]
    exact ⟨rfl, G, H.out, Fr.refl _ _, Gro.refl _ _⟩

theorem RPost.trans {w w1 w2 : World} {p : Nat} {L1 L2 : List MemM} {G G1 : Nat → Prop} (h1 : RQ w1 p L1 G1) (h2 : Fr G w w1) (h3 : Gro G G1 w) (h : ∃ G2, RQ w2 p L2 G2 ∧ Fr G1 w1 w2 ∧ Gro G1 G2 w1) :
    ∃ G2, RQ w2 p L2 G2 ∧ Fr G w w2 ∧ Gro G G2 w := by
  obtain ⟨G2, a, b, c⟩ := h
  exact ⟨G2, a, h2.trans' b (fun i hi hg => (h3 i hg).resolve_right (by omega)), h3.trans c h2.size⟩

set_option maxHeartbeats 1000000 in
theorem rchange_arg (p : Nat) (L : List MemM) (G : Nat → Prop) (x pr : Int) (w : World) (h : RQ w p L G) (hm : mayB x pr = false) :
    Calls Try.prog 17 #[.pointer (some ⟨p, 0, none⟩), .int .i64 x, .int .i64 pr] w (RPost w p L G 1) := by
  have HM : Box (mayB x pr = false) := ⟨hm⟩
  have H : Box (RQ w p L G) := ⟨h⟩
  clear h hm
  go_enter Try.func17, Try.ntmps17
  go_wp2_with (go_at_call 26; refine (rmay_any x pr _).mono ?_; rintro e w1 ⟨rfl, rfl⟩; rw [HM.out])
  go_ret
  exact ⟨rfl, G, H.out, Fr.refl _ _, Gro.refl _ _⟩
set_option maxHeartbeats 1000000 in
theorem rchange_none (p : Nat) (L : List MemM) (G : Nat → Prop) (x pr : Int) (w : World) (h : RQ w p L G) (hm : mayB x pr = true) (q : Int) (hq : idx x (ids L) = q) (hf : q < 0) :
    Calls Try.prog 17 #[.pointer (some ⟨p, 0, none⟩), .int .i64 x, .int .i64 pr] w (RPost w p L G 6) := by
  have HM : Box (mayB x pr = true) := ⟨hm⟩
  have HQ : Box (idx x (ids L) = q) := ⟨hq⟩
  have H : Box (RQ w p L G) := ⟨h⟩
  clear h hm hq
  go_enter Try.func17, Try.ntmps17
  go_wp2_with (first | (go_at_call 26; refine (rmay_any x pr _).mono ?_; rintro e w1 ⟨rfl, rfl⟩; rw [HM.out]) | (go_at_call 27; refine (rfind_any p L G x _ H.out).mono ?_; rintro e w1 ⟨rfl, rfl⟩; rw [HQ.out]))
  go_ret
  exact ⟨rfl, G, H.out, Fr.refl _ _, Gro.refl _ _⟩
set_option maxHeartbeats 1000000 in
theorem rchange_same (p : Nat) (L : List MemM) (G : Nat → Prop) (x pr : Int) (w : World) (h : RQ w p L G) (hm : mayB x pr = true) (k : Nat) (hkl : k < L.length) (hlen : L.length ≤ 100000) (hq : idx x (ids L) = (k : Int)) (P : Int) (hpr : L[k].prio = P) (hne : (P == pr) = true) :
    Calls Try.prog 17 #[.pointer (some ⟨p, 0, none⟩), .int .i64 x, .int .i64 pr] w (RPost w p L G 0) := by
  obtain ⟨a, c, hb, hr⟩ := h.at'
  have hc0 := cell_blk hb 0
  simp only [List.getElem?_toArray, List.getElem?_cons_zero] at hc0
  obtain ⟨g, rfl, _, _, hlc, hcm, hcell⟩ : ∃ g, a = some ⟨g, 0, none⟩ ∧ G g ∧ g ≠ p ∧ L.length ≤ c ∧ c ≤ 9223372036854775807 ∧ ∀ j u, (mcells L)[j]? = some u → w.cell? ⟨g, j, none⟩ = some u := by
    rcases hr with ⟨_, e, _⟩ | h
    · rw [e] at hkl; simp at hkl
    · exact h
  have d1 := hcell _ _ (mcells_get hkl).2
  rw [hpr] at d1
  obtain ⟨m, hml⟩ : ∃ m, L.length = m := ⟨_, rfl⟩
  rw [hml] at hkl hlc hc0 hlen
  have HM : Box (mayB x pr = true) := ⟨hm⟩
  have HQ : Box (idx x (ids L) = (k : Int)) := ⟨hq⟩
  have H : Box (RQ w p L G) := ⟨h⟩
  clear hcell hr hb h hq hm hml hpr
  go_enter Try.func17, Try.ntmps17
  go_wp2_with (first | (go_at_call 26; refine (rmay_any x pr _).mono ?_; rintro e w1 ⟨rfl, rfl⟩; rw [HM.out]) | (go_at_call 27; refine (rfind_any p L G x _ H.out).mono ?_; rintro e w1 ⟨rfl, rfl⟩; rw [HQ.out]))
  go_ret
  exact ⟨rfl, G, H.out, Fr.refl _ _, Gro.refl _ _⟩
set_option maxHeartbeats 1000000 in
theorem rchange_turn (p : Nat) (L L1 L2 : List MemM) (G : Nat → Prop) (x pr : Int) (w : World) (h : RQ w p L G) (hm : mayB x pr = true) (k : Nat) (hkl : k < L.length) (hlen : L.length ≤ 100000) (hq : idx x (ids L) = (k : Int)) (P : Int) (hpr : L[k].prio = P) (hne : (P == pr) = false)
    (hgo : ∀ w, RQ w p L G → Calls Try.prog 15 #[.pointer (some ⟨p, 0, none⟩), .int .i64 x] w (RPost w p L1 G 0))
    (hco : ∀ G w, RQ w p L1 G → Calls Try.prog 14 #[.pointer (some ⟨p, 0, none⟩), .int .i64 x, .int .i64 pr] w (RPost w p L2 G 0)) :
    Calls Try.prog 17 #[.pointer (some ⟨p, 0, none⟩), .int .i64 x, .int .i64 pr] w (RPost w p L2 G 0) := by
  obtain ⟨a, c, hb, hr⟩ := h.at'
  have hc0 := cell_blk hb 0
  simp only [List.getElem?_toArray, List.getElem?_cons_zero] at hc0
  obtain ⟨g, rfl, _, _, hlc, hcm, hcell⟩ : ∃ g, a = some ⟨g, 0, none⟩ ∧ G g ∧ g ≠ p ∧ L.length ≤ c ∧ c ≤ 9223372036854775807 ∧ ∀ j u, (mcells L)[j]? = some u → w.cell? ⟨g, j, none⟩ = some u := by
    rcases hr with ⟨_, e, _⟩ | h
    · rw [e] at hkl; simp at hkl
    · exact h
  have d1 := hcell _ _ (mcells_get hkl).2
  rw [hpr] at d1
  obtain ⟨m, hml⟩ : ∃ m, L.length = m := ⟨_, rfl⟩
  rw [hml] at hkl hlc hc0 hlen
  have HM : Box (mayB x pr = true) := ⟨hm⟩
  have HQ : Box (idx x (ids L) = (k : Int)) := ⟨hq⟩
  have H : Box (RQ w p L G) := ⟨h⟩
  clear hcell hr hb h hq hm hml hpr
  have HGX := Box.mk hgo
  have HCX := Box.mk hco
  clear hgo hco
  go_enter Try.func17, Try.ntmps17
  go_wp2_with (first
    | (go_at_call 26; refine (rmay_any x pr _).mono ?_; rintro e w1 ⟨rfl, rfl⟩; rw [HM.out])
    | (go_at_call 27; refine (rfind_any p L G x _ H.out).mono ?_; rintro e w1 ⟨rfl, rfl⟩; rw [HQ.out])
    | (go_at_call 15; refine (HGX.out _ H.out).mono ?_; rintro e w1 ⟨rfl, G1, hq1, hf1, hr1⟩; have HQ1 := Box.mk hq1; have HF1 := Box.mk hf1; have HR1 := Box.mk hr1; clear hq1 hf1 hr1)
    | (go_at_call 14; refine (HCX.out G1 _ HQ1.out).mono ?_; rintro e w2 ⟨rfl, hx2⟩; have HX2 := Box.mk hx2; clear hx2))
  go_ret
  exact ⟨rfl, RPost.trans HQ1.out HF1.out HR1.out HX2.out⟩

theorem rchange_any (p : Nat) (r : Nat → List Int) (n : Nat) (hg : Good r n) (hn : n ≤ 100000) (G : Nat → Prop) (x pr : Int) (w : World) (h : RQ w p (catM r 101) G) :
    Calls Try.prog 17 #[.pointer (some ⟨p, 0, none⟩), .int .i64 x, .int .i64 pr] w (RPost w p (catM (chg r x pr) 101) G (chgC r x pr)) := by
  by_cases hm : mayB x pr = true
  · by_cases hf : 0 ≤ idx x (ids (catM r 101))
    · obtain ⟨k, hk, h1, h2, _⟩ := idx_spec (idx_lt.1 hf)
      have hkl : k < (catM r 101).length := Nat.lt_of_lt_of_eq hk (ids_len _)
      have hx : (catM r 101)[k].id = x := (ids_get hkl).symm.trans h2
      obtain ⟨P, hP⟩ := Option.isSome_iff_exists.1 (find_in.1 hf)
      have hpr := at_prio hg.uniq hP hkl hx
      have hle : (catM r 101).length ≤ 100000 := Nat.le_trans hg.all hn
      have e1 : chgC r x pr = (if (P : Int) = pr then 0 else comeC (goR r x) x pr) := by unfold chgC; rw [if_pos hm, hP]
      have e2 : chg r x pr = (if (P : Int) = pr then r else come (goR r x) x pr) := by unfold chg; rw [if_pos hm, hP]
      by_cases hne : (P : Int) = pr
      · rw [e1, e2, if_pos hne, if_pos hne]
        exact rchange_same p _ G x pr w h hm k hkl hle h1 P hpr (beq_iff_eq.2 hne)
      · have HG1 := hg.go x
        have hc0 : comeC (goR r x) x pr = 0 := change_come hg.uniq hm
        have hgc : goC r x = 0 := by unfold goC; rw [hP]; rfl
        rw [e1, e2, if_neg hne, if_neg hne, hc0]
        refine rchange_turn p _ (catM (goR r x) 101) _ G x pr w h hm k hkl hle h1 P hpr (beq_eq_false_iff_ne.2 hne) (fun w hq => ?_) (fun G w hq => ?_)
        · have := rgo_any p r n hg (Nat.le_trans hn (by decide)) G x w hq
          rwa [hgc] at this
        · have := rcome_any p (goR r x) G x pr w hq (Nat.le_trans HG1.all (Nat.le_trans hn (by decide)))
          rwa [hc0] at this
    · have hpn : prio r x = none := by
        cases e : prio r x with
        | none => rfl
        | some P => exact absurd (find_in.2 (by rw [e]; rfl)) hf
      have e1 : chgC r x pr = 6 := by unfold chgC; rw [if_pos hm, hpn]
      have e2 : chg r x pr = r := by unfold chg; rw [if_pos hm, hpn]
      rw [e1, e2]
      exact rchange_none p _ G x pr w h hm _ rfl (Int.not_le.1 hf)
  · have e1 : chgC r x pr = 1 := by unfold chgC; rw [if_neg hm]
    have e2 : chg r x pr = r := by unfold chg; rw [if_neg hm]
    rw [e1, e2]
    exact rchange_arg p _ G x pr w h (Bool.eq_false_iff.2 hm)

/-! Both queues side by side, and one more block. -/
def PS (w0 w : World) (q p : Nat) (r s : Nat → List Int) (B : Nat) (O : Obj) : Prop :=
  ∃ F G, QRep w q r F ∧ RQ w p (catM s 101) G ∧ (∀ k, F k → w0.heap.size ≤ k) ∧ (∀ k, G k → w0.heap.size ≤ k) ∧ (∀ k, F k → ¬ G k) ∧ w.heap[B]? = some O ∧ ¬ F B ∧ ¬ G B ∧ Below w0.heap.size w0 w
theorem PS.below {w0 w : World} {q p : Nat} {r s : Nat → List Int} {B : Nat} {O : Obj} (h : PS w0 w q p r s B O) : Below w0.heap.size w0 w := by obtain ⟨_, _, _, _, _, _, _, _, _, _, h⟩ := h; exact h
theorem PS.blk {w0 w : World} {q p : Nat} {r s : Nat → List Int} {B : Nat} {O : Obj} (h : PS w0 w q p r s B O) : w.heap[B]? = some O := by obtain ⟨_, _, _, _, _, _, _, h, _⟩ := h; exact h
theorem PS.later {w0 w w' : World} {q p : Nat} {r s : Nat → List Int} {B : Nat} {O : Obj} (h : PS w0 w q p r s B O) (hb : Below w.heap.size w w') : PS w0 w' q p r s B O := by
  obtain ⟨F, G, h1, h2, h3, h4, h5, h6, h7, h8, h9⟩ := h
  exact ⟨F, G, h1.fr (Fr.of_below (F := fun _ => False) hb) (fun _ _ h => h), h2.later hb, h3, h4, h5, by rw [hb.block B (lt_blk h6)]; exact h6, h7, h8, h9.trans (hb.mono h9.size)⟩
/-- The same without the block. -/
def P0 (w0 w : World) (q p : Nat) (r s : Nat → List Int) : Prop :=
  ∃ F G, QRep w q r F ∧ RQ w p (catM s 101) G ∧ (∀ k, F k → w0.heap.size ≤ k) ∧ (∀ k, G k → w0.heap.size ≤ k) ∧ (∀ k, F k → ¬ G k) ∧ Below w0.heap.size w0 w
theorem P0.below {w0 w : World} {q p : Nat} {r s : Nat → List Int} (h : P0 w0 w q p r s) : Below w0.heap.size w0 w := by obtain ⟨_, _, _, _, _, _, _, h⟩ := h; exact h
theorem PS.zero {w0 w : World} {q p : Nat} {r s : Nat → List Int} {B : Nat} {O : Obj} (h : PS w0 w q p r s B O) : P0 w0 w q p r s := by
  obtain ⟨F, G, h1, h2, h3, h4, h5, h6, h7, h8, h9⟩ := h
  exact ⟨F, G, h1, h2, h3, h4, h5, h9⟩
theorem P0.swap {w0 w : World} {q p : Nat} {r s : Nat → List Int} (h : P0 w0 w q p r s) (O' : Obj) : PS w0 (w.alloc O') q p r s w.heap.size O' := by
  obtain ⟨F, G, h1, h2, h3, h4, h5, h9⟩ := h
  have hb : Below w.heap.size w (w.alloc O') := (Below.refl _ _).alloc (Nat.le_refl _) O'
  exact ⟨F, G, h1.fr (Fr.of_below (F := fun _ => False) hb) (fun _ _ h => h), h2.later hb, h3, h4, h5, blk_new _ _, fun e => by have := h1.lt _ e; omega, fun e => by have := h2.lt _ e; omega, h9.alloc h9.size _⟩
theorem P0.start (w : World) : P0 w ((w.alloc (.cells nilRows 48)).alloc (.cells #[.slice none 0 0] 43)) w.heap.size (w.heap.size + 1) (fun _ => []) (fun _ => []) := by
  have hs : (w.alloc (.cells nilRows 48)).heap.size = w.heap.size + 1 := by simp
  have h0 : catM (fun _ => []) 101 = [] := catM_none (fun _ _ => rfl)
  have hr := RQ.new (w.alloc (.cells nilRows 48))
  rw [hs, ← h0] at hr
  refine ⟨fun k => k = w.heap.size, fun k => k = w.heap.size + 1, (QRep.new w).fr (Fr.of_below (F := fun _ => False) ((Below.refl _ _).alloc (Nat.le_refl _) _)) (fun _ _ h => h), hr, fun k hk => by omega, fun k hk => by omega, fun k h1 h2 => by omega,
    ((Below.refl _ _).alloc (Nat.le_refl _) _).alloc (by simp) _⟩
/-- After a call of the one. -/
theorem PS.q {w0 w w' : World} {q p : Nat} {r r' s : Nat → List Int} {B : Nat} {O : Obj} {F G : Nat → Prop} (h1 : QRep w q r F) (h2 : RQ w p (catM s 101) G) (h3 : ∀ k, F k → w0.heap.size ≤ k) (h4 : ∀ k, G k → w0.heap.size ≤ k) (h5 : ∀ k, F k → ¬ G k)
    (h6 : w.heap[B]? = some O) (h7 : ¬ F B) (h8 : ¬ G B) (h9 : Below w0.heap.size w0 w) (h : ∃ F', QRep w' q r' F' ∧ Fr F w w' ∧ Gro F F' w) : PS w0 w' q p r' s B O := by
  obtain ⟨F', g1, g2, g3⟩ := h
  refine ⟨F', G, g1, h2.fr g2 (fun k hg hf => h5 k hf hg), fun k hk => ?_, h4, fun k hk hg => ?_, g2.blk h6 h7, fun hk => ?_, h8, h9.trans (g2.below h9.size (fun k _ hk => h3 k hk))⟩
  · rcases g3 k hk with h | h
    · exact h3 k h
    · exact Nat.le_trans h9.size h
  · rcases g3 k hk with h | h
    · exact h5 k h hg
    · have := h2.lt k hg; omega
  · rcases g3 B hk with h | h
    · exact h7 h
    · have := lt_blk h6; omega
/-- After a call of the other. -/
theorem PS.p {w0 w w' : World} {q p : Nat} {r s' : Nat → List Int} {B : Nat} {O : Obj} {F G : Nat → Prop} (h1 : QRep w q r F) (h3 : ∀ k, F k → w0.heap.size ≤ k) (h4 : ∀ k, G k → w0.heap.size ≤ k) (h5 : ∀ k, F k → ¬ G k)
    (h6 : w.heap[B]? = some O) (h7 : ¬ F B) (h8 : ¬ G B) (h9 : Below w0.heap.size w0 w) (h : ∃ G', RQ w' p (catM s' 101) G' ∧ Fr G w w' ∧ Gro G G' w) : PS w0 w' q p r s' B O := by
  obtain ⟨G', g1, g2, g3⟩ := h
  refine ⟨F, G', h1.fr g2 h5, g1, h3, fun k hk => ?_, fun k hk hg => ?_, g2.blk h6 h8, h7, fun hk => ?_, h9.trans (g2.below h9.size (fun k _ hk => h4 k hk))⟩
  · rcases g3 k hk with h | h
    · exact h4 k h
    · exact Nat.le_trans h9.size h
  · rcases g3 k hg with h | h
    · exact h5 k hk h
    · have := h1.lt k hk; omega
  · rcases g3 B hk with h | h
    · exact h8 h
    · have := lt_blk h6; omega

section
variable (w0 w : World) (q p : Nat) (r s : Nat → List Int) (B : Nat) (O : Obj) (h : PS w0 w q p r s B O)
include h
theorem qcome_ps (id pr : Int) (hlen : ∀ i, (r i).length ≤ 1000000) (v : Int) (hv : comeC r id pr = v) (r' : Nat → List Int) (hr : come r id pr = r') :
    Calls Try.prog 10 #[.pointer (some ⟨q, 0, none⟩), .int .i64 id, .int .i64 pr] w fun e w' => e = .returned (.int .i64 v) ∧ PS w0 w' q p r' s B O := by
  subst hv; subst hr
  obtain ⟨F, G, h1, h2, h3, h4, h5, h6, h7, h8, h9⟩ := h
  exact (come_any q r F id pr w h1 hlen).mono fun e w' hx => ⟨hx.1, PS.q h1 h2 h3 h4 h5 h6 h7 h8 h9 hx.2⟩
theorem qgo_ps (id : Int) (v : Int) (hv : goC r id = v) (r' : Nat → List Int) (hr : goR r id = r') :
    Calls Try.prog 12 #[.pointer (some ⟨q, 0, none⟩), .int .i64 id] w fun e w' => e = .returned (.int .i64 v) ∧ PS w0 w' q p r' s B O := by
  subst hv; subst hr
  obtain ⟨F, G, h1, h2, h3, h4, h5, h6, h7, h8, h9⟩ := h
  exact (go_any q r F id w h1).mono fun e w' hx => ⟨hx.1, PS.q h1 h2 h3 h4 h5 h6 h7 h8 h9 hx.2⟩
theorem qchange_ps (id pr : Int) (hlen : ∀ i, (r i).length ≤ 1000000) (v : Int) (hv : chgC r id pr = v) (r' : Nat → List Int) (hr : chg r id pr = r') :
    Calls Try.prog 16 #[.pointer (some ⟨q, 0, none⟩), .int .i64 id, .int .i64 pr] w fun e w' => e = .returned (.int .i64 v) ∧ PS w0 w' q p r' s B O := by
  subst hv; subst hr
  obtain ⟨F, G, h1, h2, h3, h4, h5, h6, h7, h8, h9⟩ := h
  exact (change_any q r F id pr w h1 hlen).mono fun e w' hx => ⟨hx.1, PS.q h1 h2 h3 h4 h5 h6 h7 h8 h9 hx.2⟩
theorem rcome_ps (id pr : Int) (n : Nat) (hg : Good s n) (hn : n ≤ 100000) (v : Int) (hv : comeC s id pr = v) (s' : Nat → List Int) (hr : come s id pr = s') :
    Calls Try.prog 14 #[.pointer (some ⟨p, 0, none⟩), .int .i64 id, .int .i64 pr] w fun e w' => e = .returned (.int .i64 v) ∧ PS w0 w' q p r s' B O := by
  subst hv; subst hr
  obtain ⟨F, G, h1, h2, h3, h4, h5, h6, h7, h8, h9⟩ := h
  exact (rcome_any p s G id pr w h2 (Nat.le_trans hg.all (by omega))).mono fun e w' hx => ⟨hx.1, PS.p h1 h3 h4 h5 h6 h7 h8 h9 hx.2⟩
theorem rgo_ps (id : Int) (n : Nat) (hg : Good s n) (hn : n ≤ 100000) (v : Int) (hv : goC s id = v) (s' : Nat → List Int) (hr : goR s id = s') :
    Calls Try.prog 15 #[.pointer (some ⟨p, 0, none⟩), .int .i64 id] w fun e w' => e = .returned (.int .i64 v) ∧ PS w0 w' q p r s' B O := by
  subst hv; subst hr
  obtain ⟨F, G, h1, h2, h3, h4, h5, h6, h7, h8, h9⟩ := h
  exact (rgo_any p s n hg (by omega) G id w h2).mono fun e w' hx => ⟨hx.1, PS.p h1 h3 h4 h5 h6 h7 h8 h9 hx.2⟩
theorem rchange_ps (id pr : Int) (n : Nat) (hg : Good s n) (hn : n ≤ 100000) (v : Int) (hv : chgC s id pr = v) (s' : Nat → List Int) (hr : chg s id pr = s') :
    Calls Try.prog 17 #[.pointer (some ⟨p, 0, none⟩), .int .i64 id, .int .i64 pr] w fun e w' => e = .returned (.int .i64 v) ∧ PS w0 w' q p r s' B O := by
  subst hv; subst hr
  obtain ⟨F, G, h1, h2, h3, h4, h5, h6, h7, h8, h9⟩ := h
  exact (rchange_any p s n hg hn G id pr w h2).mono fun e w' hx => ⟨hx.1, PS.p h1 h3 h4 h5 h6 h7 h8 h9 hx.2⟩
theorem qfirst_ps (v : Value) (hv : firstV r = v) :
    Calls Try.prog 11 #[.pointer (some ⟨q, 0, none⟩)] w fun e w' => e = .returned v ∧ PS w0 w' q p r s B O := by
  subst hv
  have h0 := h
  obtain ⟨F, G, h1, _⟩ := h
  exact (first_any q r F w h1).mono fun e w' hx => ⟨hx.1, hx.2 ▸ h0⟩
theorem rfirst_ps (v : Value) (hv : firstV s = v) :
    Calls Try.prog 18 #[.pointer (some ⟨p, 0, none⟩)] w fun e w' => e = .returned v ∧ PS w0 w' q p r s B O := by
  subst hv
  have h0 := h
  obtain ⟨F, G, _, h2, _⟩ := h
  exact (rfirst_any p _ G w h2).mono fun e w' hx => ⟨by rw [← catM_first]; exact hx.1, h0.later hx.2⟩
theorem qall_ps (hlen : ∀ i, (r i).length ≤ 1000000) (l : List Int) (hl : allQ r = l) (n : Nat) (hn : l.length = n) :
    Calls Try.prog 13 #[.pointer (some ⟨q, 0, none⟩)] w fun e w' => ∃ ao cap, e = .returned (.slice ao n cap) ∧ RowAt w' (fun _ => True) (.slice ao n cap) n 1 (ints l) ∧ PS w0 w' q p r s B O := by
  subst hl; subst hn
  have h0 := h
  obtain ⟨F, G, h1, _⟩ := h
  refine (all_any q r F w h1 hlen).mono ?_
  rintro e w' ⟨v, rfl, ho, hb⟩
  obtain ⟨ao, cap, rfl⟩ := ownsRow_slice ho
  exact ⟨ao, cap, rfl, (RowAt.of_owns ho).mono (fun _ _ => trivial), h0.later hb⟩
theorem rall_ps (m : Nat) (hg : Good s m) (hm : m ≤ 100000) (l : List Int) (hl : allQ s = l) (n : Nat) (hn : l.length = n) :
    Calls Try.prog 20 #[.pointer (some ⟨p, 0, none⟩)] w fun e w' => ∃ ao cap, e = .returned (.slice ao n cap) ∧ RowAt w' (fun _ => True) (.slice ao n cap) n 1 (ints l) ∧ PS w0 w' q p r s B O ∧ Below w.heap.size w w' := by
  have h0 := h
  obtain ⟨F, G, _, h2, _⟩ := h
  have hx : (catM s 101).length = n := by rw [← hn, ← hl, ← ids_all, ids_len]
  subst hl
  refine (rall_any p _ G w h2 (Nat.le_trans hg.all (by omega))).mono ?_
  rintro e w' ⟨ao, cap, rfl, ho, hb⟩
  rw [hx] at ho ⊢
  rw [ids_all] at ho
  exact ⟨ao, cap, rfl, (RowAt.of_owns ho).mono (fun _ _ => trivial), h0.later hb, hb⟩
end

end Go.Proofs.Ytelehfcjajipiaa.readyPlays
