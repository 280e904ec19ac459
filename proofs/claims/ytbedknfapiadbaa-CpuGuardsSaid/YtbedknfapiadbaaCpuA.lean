/-
  A server's budget, as it lies in memory, and the walks of tick.May, tick.Add, spor.May, spor.New, Left and Use.
-/
import Derived.Test.YtbedknfapiadbaaRtaM
import Derived.ArgAppend
import Derived.BigRegion
import Derived.Deep.QuietTactic
import Derived.BigQuiet
import Derived.Deep.RegionLawGrows
import Derived.Deep.CutBlock
import Derived.Deep.DeepCutAuto
import Derived.Test.YtbedknfapiadbaaChecked
namespace Go.Proofs.Ytbedknfapiadbaa
open Go.RowKit

theorem same_drawn {w : World} (n : Nat) : Below w.heap.size w (w.drewN n) := ⟨rfl, rfl, rfl, Nat.le_refl _, fun _ _ => rfl⟩
theorem ret_bool' {a b : Bool} (h : a = b) : Ending.returned (.bool a) = .returned (.bool b) := by rw [h]

set_option maxHeartbeats 400000 in
theorem tmay_any (t : Nat) (w : World) :
    Calls Try.prog 46 #[.int .u64 t] w fun e w' => e = .returned (.bool (decide (t < 4611686018427387904))) ∧ w = w' := by
  go_enter Try.func46, Try.ntmps46
  go_wp2
  go_ret
  exact ⟨ret_bool' (by rw [Bool.eq_iff_iff]; simp; try omega), rfl⟩

/-- A budget: its server, when the units that are out come back, and its time. -/
structure BudM where
  s : ServM
  back : List Nat
  now : Nat
/-- Its state at a time. -/
def BudM.at (b : BudM) (t : Nat) : BudM := ⟨b.s, b.back.dropWhile (fun x => decide (x ≤ t)), t⟩
def BudM.left (b : BudM) : Int := b.s.budget - b.back.length
def BudM.used (b : BudM) : BudM := ⟨b.s, b.back ++ [b.now + b.s.period], b.now⟩
structure BudM.Ok (b : BudM) : Prop where
  s : b.s.ok = true
  len : (b.back.length : Int) ≤ b.s.budget
theorem BudM.Ok.at {b : BudM} (h : b.Ok) (t : Nat) : (b.at t).Ok := ⟨h.s, by
  have h1 := h.len
  have h2 : (b.back.dropWhile (fun x => decide (x ≤ t))).length ≤ b.back.length := (List.dropWhile_suffix _).length_le
  show ((b.back.dropWhile _).length : Int) ≤ b.s.budget
  omega⟩
theorem BudM.Ok.used {b : BudM} (h : b.Ok) (hl : 0 < b.left) : b.used.Ok := ⟨h.s, by
  unfold BudM.left at hl
  show ((b.back ++ [b.now + b.s.period]).length : Int) ≤ b.s.budget
  simp only [List.length_append, List.length_cons, List.length_nil]
  omega⟩

abbrev ucells (l : List Nat) : List Value := l.map (fun (x : Nat) => Value.int .u64 x)
theorem ucells_get {l : List Nat} {k : Nat} (hk : k < l.length) : (ucells l)[k]? = some (.int .u64 l[k]) := by simp [hk]
/-- The times' row; full: its capacity is its length. -/
def URow (w : World) (G : Nat → Prop) (p : Nat) (a : Option Addr) (c : Nat) (l : List Nat) : Prop :=
  (a = none ∧ l = [] ∧ c = 0) ∨ ∃ g off, a = some ⟨g, off, none⟩ ∧ G g ∧ g ≠ p ∧ l.length ≤ c ∧ c ≤ 9223372036854775807 ∧ ∀ j u, (ucells l)[j]? = some u → w.cell? ⟨g, off + j, none⟩ = some u
structure BudAt (w : World) (p : Nat) (M : BudM) (G : Nat → Prop) (full : Bool) : Prop where
  gp : G p
  lt : ∀ k, G k → k < w.heap.size
  at' : ∃ a c, w.heap[p]? = some (.cells #[.int .i64 M.s.budget, .int .u64 M.s.period, .slice a M.back.length c, .int .u64 M.now] 94 (0, 0)) ∧ URow w G p a c M.back ∧ (full = true → c = M.back.length)
theorem URow.fr {w w' : World} {G F : Nat → Prop} {p : Nat} {a : Option Addr} {c : Nat} {L : List Nat} (h : URow w G p a c L) (hl : ∀ k, G k → k < w.heap.size) (hf : Fr F w w') (hG : ∀ k, G k → k ≠ p → ¬ F k) : URow w' G p a c L := by
  rcases h with h | ⟨g, off, e, hg, hn, h⟩
  · exact .inl h
  · exact .inr ⟨g, off, e, hg, hn, h.1, h.2.1, fun j u hu => (hf.cell (p := ⟨g, off + j, none⟩) (hl g hg) (hG g hg hn)).trans (h.2.2 j u hu)⟩
theorem URow.mono {w : World} {G G' : Nat → Prop} {p : Nat} {a : Option Addr} {c : Nat} {L : List Nat} (h : URow w G p a c L) (hG : ∀ k, G k → G' k) : URow w G' p a c L := by
  rcases h with h | ⟨g, off, e, hg, h⟩
  · exact .inl h
  · exact .inr ⟨g, off, e, hG g hg, h⟩
theorem BudAt.fr {w w' : World} {p : Nat} {M : BudM} {G F : Nat → Prop} {f : Bool} (h : BudAt w p M G f) (hf : Fr F w w') (hG : ∀ k, G k → ¬ F k) : BudAt w' p M G f := by
  obtain ⟨a, c, hb, hr, hc⟩ := h.at'
  exact ⟨h.gp, fun k hk => Nat.lt_of_lt_of_le (h.lt k hk) hf.size, a, c, hf.blk hb (hG p h.gp), hr.fr h.lt hf (fun k hk _ => hG k hk), hc⟩
theorem BudAt.mono {w : World} {p : Nat} {M : BudM} {G G' : Nat → Prop} {f : Bool} (h : BudAt w p M G f) (hG : ∀ k, G k → G' k) (hl : ∀ k, G' k → k < w.heap.size) : BudAt w p M G' f := by
  obtain ⟨a, c, hb, hr, hc⟩ := h.at'
  exact ⟨hG p h.gp, hl, a, c, hb, hr.mono hG, hc⟩
theorem BudAt.any {w : World} {p : Nat} {M : BudM} {G : Nat → Prop} {f : Bool} (h : BudAt w p M G f) : BudAt w p M G false := by
  obtain ⟨a, c, hb, hr, _⟩ := h.at'
  exact ⟨h.gp, h.lt, a, c, hb, hr, fun e => by cases e⟩
theorem BudAt.new (w : World) (s : ServM) : BudAt (w.alloc (.cells #[.int .i64 s.budget, .int .u64 s.period, .slice none 0 0, .int .u64 (0 : Nat)] 94)) w.heap.size ⟨s, [], 0⟩ (fun k => k = w.heap.size) true :=
  ⟨rfl, fun k hk => by simp [hk], none, 0, blk_new _ _, .inl ⟨rfl, rfl, rfl⟩, fun _ => rfl⟩

/-- What a call leaves of a budget. -/
def BPost (w : World) (p : Nat) (M' : BudM) (G : Nat → Prop) (full : Bool) (w' : World) : Prop := ∃ G', BudAt w' p M' G' full ∧ Fr G w w' ∧ Gro G G' w

theorem dropWhile_at {l : List Nat} {t k : Nat} (hk : k ≤ l.length) (h1 : ∀ (j : Nat) (hj : j < l.length), j < k → l[j] ≤ t) (h2 : ∀ hl : k < l.length, ¬ (l[k]'hl) ≤ t) : l.dropWhile (fun x => decide (x ≤ t)) = l.drop k := by
  induction l generalizing k with
  | nil => simp
  | cons x l ih =>
    cases k with
    | zero =>
      have := h2 (by simp)
      simp only [List.getElem_cons_zero] at this
      rw [List.dropWhile_cons_of_neg (by simpa using this)]
      rfl
    | succ k =>
      have := h1 0 (by simp) (by omega)
      simp only [List.getElem_cons_zero] at this
      rw [List.dropWhile_cons_of_pos (by simpa using this), List.drop_succ_cons]
      refine ih (by simpa using hk) (fun j hj hjk => ?_) (fun hl => ?_)
      · have := h1 (j + 1) (by simpa using hj) (by omega)
        simpa using this
      · have := h2 (by simpa using hl)
        simpa using this


set_option maxHeartbeats 1000000 in
theorem tadd_any (t d : Nat) (h : t + d < 4611686018427387904) (w : World) :
    Calls Try.prog 35 #[.int .u64 t, .int .u64 d] w fun e w' => e = .returned (.tuple #[.int .u64 (t + d : Nat), .int .i64 0]) ∧ w = w' := by
  have h1 : decide (t < 4611686018427387904) = true := decide_eq_true (by omega)
  have h2 : decide (t + d < 4611686018427387904) = true := decide_eq_true h
  have hw : IntKind.u64.wrap ((t : Int) + (d : Int)) = ((t + d : Nat) : Int) := by rw [IntWalk.u64_in _ (by omega)]; omega
  obtain ⟨S, hS⟩ : ∃ S, t + d = S := ⟨_, rfl⟩
  rw [hS] at hw h2 ⊢
  have hd : (d : Int) ≤ 4611686018427387904 := by omega
  clear hS
  go_enter Try.func35, Try.ntmps35
  go_wp2_with (first
    | (go_at_call 46; (with_reducible refine (tmay_any t _).mono ?_); rintro e w1 ⟨rfl, rfl⟩; rw [h1])
    | (go_at_call 46; (try rw [hw]); refine (tmay_any S _).mono ?_; rintro e w1 ⟨rfl, rfl⟩; rw [h2]))
  go_ret2
  exact ⟨rfl, rfl⟩

set_option maxHeartbeats 4000000 in
theorem left_any (p : Nat) (M : BudM) (G : Nat → Prop) (f : Bool) (t : Nat) (w : World) (h : BudAt w p M G f) (ht : t < 4611686018427387904) (hle : M.now ≤ t) (hb : 0 ≤ M.s.budget ∧ M.s.budget ≤ 200) (hl : M.back.length ≤ 200) :
    Calls Try.prog 54 #[.pointer (some ⟨p, 0, none⟩), .int .u64 t] w fun e w' => e = .returned (.tuple #[.int .i64 (M.at t).left, .int .i64 0]) ∧ BudAt w' p (M.at t) G true ∧ Fr (fun k => k = p) w w' := by
  obtain ⟨⟨bu, pe⟩, ba, no⟩ := M
  obtain ⟨a, c, hblk, hr, _⟩ := h.at'
  simp only at hblk hr hle hb hl
  have hlt := h.lt
  have hgp := h.gp
  have hpl := lt_blk hblk
  have HM : Box (decide (t < 4611686018427387904) = true) := ⟨decide_eq_true ht⟩
  have hlei : ¬ (t : Int) < no := by omega
  obtain ⟨n, hn⟩ : ∃ n, ba.length = n := ⟨_, rfl⟩
  have HN : Box (ba.length = n) := ⟨hn⟩
  have hb2 := blk_set (i := 3) hblk (.int .u64 t)
  simp only [List.setIfInBounds_toArray, List.set_cons_succ, List.set_cons_zero] at hb2
  have HF1 : Box (Fr (fun k => k = p) w (w.setCell ⟨p, 3, none⟩ (.int .u64 t))) := ⟨Fr.setCell (F := fun k => k = p) (Fr.refl _ w) (p := ⟨p, 3, none⟩) (.inl rfl) _⟩
  have hr2 : URow (w.setCell ⟨p, 3, none⟩ (.int .u64 t)) G p a c ba := hr.fr hlt HF1.out (fun k _ hk => hk)
  have hlt2 : ∀ k, G k → k < (w.setCell ⟨p, 3, none⟩ (.int .u64 t)).heap.size := fun k hk => Nat.lt_of_lt_of_le (hlt k hk) HF1.out.size
  have d3 := cell_blk hblk 3
  have d2 := cell_blk hblk 2
  simp only [List.getElem?_toArray, List.getElem?_cons_zero, List.getElem?_cons_succ] at d2 d3
  have f3 := free_blk hblk 3
  rw [hn] at hb2 d2 hl
  clear hblk hr hlt h hn
  go_enter Try.func54, Try.ntmps54
  go_upto_region 6 with (go_at_call 46; refine (tmay_any t _).mono ?_; rintro e w1 ⟨rfl, rfl⟩; rw [HM.out])
  have hdl : decide (t < no) = false := decide_eq_false (by omega)
  rw [hdl]
  clear d2 d3 f3 hdl
  generalize w.setCell ⟨p, 3, none⟩ (.int .u64 t) = W at hb2 HF1 hr2 hlt2 ⊢
  have c0 := cell_blk hb2 0
  have c2 := cell_blk hb2 2
  simp only [List.getElem?_toArray, List.getElem?_cons_zero, List.getElem?_cons_succ] at c0 c2
  have f2 := free_blk hb2 2
  have HB2 := Box.mk hb2
  have HR2 := Box.mk hr2
  have HLT := Box.mk hlt2
  clear hb2 hr2 hlt2 hlei hle
  go_upto_block 1 with fail
  go_cut [6] (fun s6 wx => ∃ k : Nat, k ≤ n ∧ s6 = .int .i64 k ∧ wx = W ∧ Box (ba.dropWhile (fun x => decide (x ≤ t)) = ba.drop k))
  case first =>
    go_wp2_with fail
    go_loop [6] (fun i => ∃ k : Nat, k ≤ n ∧ i = .int .i64 k ∧ Box (∀ (j : Nat) (hj : j < ba.length), j < k → ba[j] ≤ t)) (fun i => n - (intOf i).toNat)
    case atStart => exact ⟨0, Nat.zero_le _, rfl, ⟨fun j _ h => by omega⟩⟩
    case round =>
      obtain ⟨k, hk, rfl, HX⟩ := hrel
      by_cases hlt : k < n
      · have hlL : k < ba.length := by rw [HN.out]; exact hlt
        rcases HR2.out with ⟨_, e, _⟩ | ⟨g, off, rfl, hGg, _, hlc, hcm, hcell⟩
        · rw [e] at hlL; simp at hlL
        · have d1 := hcell _ _ (ucells_get hlL)
          clear hcell hlc hcm
          by_cases hp : ba[k] ≤ t
          · have HY : Box (∀ (j : Nat) (hj : j < ba.length), j < k + 1 → ba[j] ≤ t) := ⟨fun j hj hjk => by
              by_cases e : j = k
              · subst e; exact hp
              · exact HX.out j hj (by omega)⟩
            generalize ba[k] = y at d1 hp
            clear hlL
            go_wp2
            go_round
            case rel => exact ⟨k + 1, by omega, by go_num, HY⟩
            case measure => simp [intOf]; omega
          · have HY : Box (ba.dropWhile (fun x => decide (x ≤ t)) = ba.drop k) := ⟨dropWhile_at (by omega) HX.out (fun _ => hp)⟩
            generalize ba[k] = y at d1 hp
            clear hlL
            go_wp2
            go_meet
            exact ⟨k, hk, rfl, rfl, HY⟩
      · have HY : Box (ba.dropWhile (fun x => decide (x ≤ t)) = ba.drop k) := ⟨dropWhile_at (by have := HN.out; omega) HX.out (fun hl => by have := HN.out; omega)⟩
        go_wp2
        go_meet
        exact ⟨k, hk, rfl, rfl, HY⟩
  case rest =>
    obtain ⟨k, hk, rfl, rfl, HY⟩ := hcut
    rename World => W
    have hk0 : (0 : Int) ≤ k := by omega
    have hkn : (k : Int) ≤ n := by omega
    have hn2 : (n : Int) ≤ 200 := by omega
    rcases HR2.out with ⟨rfl, e, rfl⟩ | ⟨g, off, rfl, hGg, hgp2, hlc, hcm, hcell⟩
    · obtain rfl : n = 0 := by rw [← HN.out, e]; rfl
      obtain rfl : k = 0 := by omega
      have HE : Box (ba = []) := ⟨e⟩
      have hbi : (bu : Int) ≤ 200 := hb.2
      have HAT : Box ((BudM.mk ⟨bu, pe⟩ ba no).at t = ⟨⟨bu, pe⟩, [], t⟩) := ⟨by show BudM.mk _ (ba.dropWhile _) t = _; rw [e]; rfl⟩
      clear e
      go_upto_region 9 with fail
      have hb3 := blk_set (i := 2) HB2.out (.slice none 0 0)
      simp only [List.setIfInBounds_toArray, List.set_cons_succ, List.set_cons_zero] at hb3
      have HF2 : Box (Fr (fun k => k = p) w (W.setCell ⟨p, 2, none⟩ (.slice none 0 0)).drew) := ⟨(HF1.out.trans (Fr.setCell (F := fun k => k = p) (Fr.refl _ W) (p := ⟨p, 2, none⟩) (.inl rfl) _)).drew⟩
      have e0 : (W.setCell ⟨p, 2, none⟩ (.slice none 0 0)).drew.cell? ⟨p, 0, none⟩ = some (.int .i64 bu) := cell_blk hb3 0
      have e2 : (W.setCell ⟨p, 2, none⟩ (.slice none 0 0)).drew.cell? ⟨p, 2, none⟩ = some (.slice none 0 0) := cell_blk hb3 2
      have HU : Box (URow (W.setCell ⟨p, 2, none⟩ (.slice none 0 0)).drew G p none (0) ([])) := ⟨.inl ⟨rfl, rfl, rfl⟩⟩
      have HB3 : Box ((W.setCell ⟨p, 2, none⟩ (.slice none 0 0)).drew.heap[p]? = some (.cells #[.int .i64 bu, .int .u64 pe, .slice none 0 0, .int .u64 t] 94 (0, 0))) := ⟨hb3⟩
      have HLT2 : Box (∀ b, G b → b < (W.setCell ⟨p, 2, none⟩ (.slice none 0 0)).drew.heap.size) := ⟨fun b hk => by have := HLT.out b hk; simpa [World.setCell, World.drew] using this⟩
      clear hb3
      go_region
      go_upto_region 10 with fail
      generalize (W.setCell ⟨p, 2, none⟩ (.slice none 0 0)).drew = V at HF2 e0 e2 HU HB3 HLT2 ⊢
      go_quiet (fail)
      go_wp2
      go_ret2
      rw [HAT.out]
      exact ⟨by simp [BudM.left], (BudAt.mk hgp HLT2.out ⟨_, _, HB3.out, HU.out, fun _ => rfl⟩ : BudAt V p ⟨⟨bu, pe⟩, [], t⟩ G true).fr (F := fun _ => False) ((Fr.refl _ _).drewN _) (fun _ _ h => h), HF2.out.drewN _⟩
    · rw [HN.out] at hlc
      have hci : (n : Int) ≤ c := by omega
      obtain ⟨o2, hA, hA2⟩ : ∃ o2 : Nat, (if n = k then some ⟨g, off, none⟩ else some ⟨g, off + k, none⟩ : Option Addr) = some ⟨g, o2, none⟩ ∧ (k < n → o2 = off + k) := by
        by_cases e : n = k
        · exact ⟨_, if_pos e, fun h => by omega⟩
        · exact ⟨_, if_neg e, fun _ => rfl⟩
      have HAT : Box ((BudM.mk ⟨bu, pe⟩ ba no).at t = ⟨⟨bu, pe⟩, ba.drop k, t⟩) := ⟨by show BudM.mk _ (ba.dropWhile _) t = _; rw [HY.out]⟩
      have HDL : Box ((ba.drop k).length = n - k) := ⟨by rw [List.length_drop, HN.out]⟩
      have HC := Box.mk hcell
      clear hcell
      go_upto_region 9 with fail
      have hb3 := blk_set (i := 2) HB2.out (.slice (some ⟨g, o2, none⟩) (n - k) (n - k))
      simp only [List.setIfInBounds_toArray, List.set_cons_succ, List.set_cons_zero] at hb3
      have HF2 : Box (Fr (fun k => k = p) w (W.setCell ⟨p, 2, none⟩ (.slice (some ⟨g, o2, none⟩) (n - k) (n - k))).drew) := ⟨(HF1.out.trans (Fr.setCell (F := fun k => k = p) (Fr.refl _ W) (p := ⟨p, 2, none⟩) (.inl rfl) _)).drew⟩
      have e0 : (W.setCell ⟨p, 2, none⟩ (.slice (some ⟨g, o2, none⟩) (n - k) (n - k))).drew.cell? ⟨p, 0, none⟩ = some (.int .i64 bu) := cell_blk hb3 0
      have e2 : (W.setCell ⟨p, 2, none⟩ (.slice (some ⟨g, o2, none⟩) (n - k) (n - k))).drew.cell? ⟨p, 2, none⟩ = some (.slice (some ⟨g, o2, none⟩) (n - k) (n - k)) := cell_blk hb3 2
      have HU : Box (URow (W.setCell ⟨p, 2, none⟩ (.slice (some ⟨g, o2, none⟩) (n - k) (n - k))).drew G p (some ⟨g, o2, none⟩) (n - k) (ba.drop k)) := ⟨.inr ⟨g, o2, rfl, hGg, hgp2, by rw [HDL.out]; exact Nat.le_refl _, by omega, fun j u hu => by
        have hj := (List.getElem?_eq_some_iff.1 hu).1
        rw [List.length_map, HDL.out] at hj
        have h1 : (ucells ba)[k + j]? = some u := by
          rw [← hu]; simp
        have h2 := HC.out _ _ h1
        rw [hA2 (by omega), Nat.add_assoc]
        exact (Fr.cell (F := fun k => k = p) ((Fr.setCell (F := fun k => k = p) (Fr.refl _ W) (p := ⟨p, 2, none⟩) (.inl rfl) _)) (p := ⟨g, off + (k + j), none⟩) (HLT.out g hGg) hgp2).trans h2⟩⟩
      have HB3 : Box ((W.setCell ⟨p, 2, none⟩ (.slice (some ⟨g, o2, none⟩) (n - k) (n - k))).drew.heap[p]? = some (.cells #[.int .i64 bu, .int .u64 pe, .slice (some ⟨g, o2, none⟩) (n - k) (n - k), .int .u64 t] 94 (0, 0))) := ⟨hb3⟩
      have HLT2 : Box (∀ b, G b → b < (W.setCell ⟨p, 2, none⟩ (.slice (some ⟨g, o2, none⟩) (n - k) (n - k))).drew.heap.size) := ⟨fun b hk => by have := HLT.out b hk; simpa [World.setCell, World.drew] using this⟩
      clear hb3
      go_region
      go_upto_region 10 with fail
      generalize (W.setCell ⟨p, 2, none⟩ (.slice (some ⟨g, o2, none⟩) (n - k) (n - k))).drew = V at HF2 e0 e2 HU HB3 HLT2 ⊢
      go_quiet (fail)
      go_wp2
      go_ret2
      rw [HAT.out]
      exact ⟨by simp [BudM.left, HDL.out], (BudAt.mk hgp HLT2.out ⟨_, _, by rw [HDL.out]; exact HB3.out, HU.out, fun _ => HDL.out.symm⟩ : BudAt V p ⟨⟨bu, pe⟩, ba.drop k, t⟩ G true).fr (F := fun _ => False) ((Fr.refl _ _).drewN _) (fun _ _ h => h), HF2.out.drewN _⟩

end Go.Proofs.Ytbedknfapiadbaa
