/-
  The walks of 'slices.IndexFunc' and 'slices.DeleteFunc' at the closure of package ready's 'Go', and of 'Go' itself.
-/
import Derived.Test.YtbedknfapiadbaaReadyC
import Derived.Lib.SliceRun
import Derived.Deep.RegionWith
namespace Go.Proofs.Ytbedknfapiadbaa
open Go.RowKit

/-- The closure of 'Go': it asks whether a number is the one in block c. -/
abbrev isId (c : Nat) : Value := .func (.func 56) #[] #[.pointer (some ⟨c, 0, none⟩)]

set_option maxHeartbeats 400000 in
theorem go1_any (x id : Int) (c : Nat) (w : World) (hc : w.cell? ⟨c, 0, none⟩ = some (.int .i64 id)) :
    Calls Try.prog 56 #[.int .i64 x, .pointer (some ⟨c, 0, none⟩)] w fun e w' => e = .returned (.bool (x == id)) ∧ w = w' := by
  go_enter Try.func56, Try.ntmps56
  go_wp2
  go_ret
  exact ⟨rfl, rfl⟩

set_option maxHeartbeats 400000 in
theorem indexFunc_any (G : Nat → Prop) (v : Value) (n : Nat) (l : List Int) (x : Int) (c : Nat) (w : World) (h : RowAt w G v n 1 (ints l)) (hcc : w.cell? ⟨c, 0, none⟩ = some (.int .i64 x)) :
    Calls Try.prog 63 #[v, isId c] w fun e w' => e = .returned (.int .i64 (idx x l)) ∧ w = w' := by
  obtain ⟨hl, h⟩ := h
  obtain rfl : n = l.length := by simpa using hl.symm
  clear hl
  have HC := Lib.hid hcc
  clear hcc
  rcases h with ⟨rfl, h0⟩ | ⟨b, off, cap, rfl, hnc, hm, _, hb, hc⟩
  · obtain rfl : l = [] := by simpa using h0
    go_enter Try.func63, Try.ntmps63
    go_wp2
    refine wp_loop_rounds 1 ?_
    rw [rounds_succ]
    go_wp2
    go_ret
    exact ⟨rfl, rfl⟩
  · go_enter Try.func63, Try.ntmps63
    go_wp2
    go_loop [8] (fun i => ∃ k : Nat, k ≤ l.length ∧ i = .int .i64 k ∧ x ∉ l.take k) (fun i => l.length - (intOf i).toNat)
    case atStart => exact ⟨0, Nat.zero_le _, rfl, by simp⟩
    case round =>
      obtain ⟨k, hk, rfl, hx⟩ := hrel
      by_cases hlt : k < l.length
      · have hcell := hc k _ (ints_get hlt)
        by_cases hq : x = l[k]
        · have hq' : (l[k] == x) = true := by simpa using hq.symm
          have Hq : Hid (x = l[k]) := hq
          clear hq hc
          go_wp2_with (go_at_call 56; refine (go1_any _ x c _ HC.out).mono ?_; rintro e w' ⟨rfl, rfl⟩)
          go_ret
          exact ⟨ret_int (idx_at k hlt hx Hq.out).symm, rfl⟩
        · have hq' : (l[k] == x) = false := by simpa using fun e => hq e.symm
          clear hc
          go_wp2_with (go_at_call 56; refine (go1_any _ x c _ HC.out).mono ?_; rintro e w' ⟨rfl, rfl⟩)
          go_round
          case rel => exact ⟨k + 1, by omega, by go_num, not_mem_take_succ hlt hx hq⟩
          case measure => simp [intOf] <;> omega
      · clear hc
        have hx' : x ∉ l := by rwa [List.take_of_length_le (by omega)] at hx
        have hd := idx_none hx'
        have Hd := Lib.hid hd
        clear hd
        go_wp2
        go_ret
        exact ⟨ret_int Hd.out.symm, rfl⟩

/-- A stretch of cells stored into a row that is known whole. -/
theorem blk_setCells {b : Nat} {t : TypeId} (vs : List Value) : ∀ (o : Nat) (w : World) (cs : Array Value), w.heap[b]? = some (.cells cs t (0, 0)) →
    ∃ cs' : Array Value, (w.setCells b o vs).heap[b]? = some (.cells cs' t (0, 0)) ∧ cs'.size = cs.size ∧ (∀ k, k < o → cs'[k]? = cs[k]?) ∧ (∀ k, k < vs.length → o + k < cs.size → cs'[o + k]? = vs[k]?) ∧ (∀ k, o + vs.length ≤ k → cs'[k]? = cs[k]?) := by
  induction vs with
  | nil => intro o w cs h; exact ⟨cs, h, rfl, fun _ _ => rfl, fun k hk => by simp at hk, fun _ _ => rfl⟩
  | cons v vs ih =>
    intro o w cs h
    obtain ⟨cs', h1, h2, h3, h4, h5⟩ := ih (o + 1) (w.setCell ⟨b, o, none⟩ v) (cs.setIfInBounds o v) (blk_set h v)
    refine ⟨cs', h1, by simpa using h2, fun k hk => ?_, fun k hk hb => ?_, fun k hk => ?_⟩
    · rw [h3 k (by omega), Array.getElem?_setIfInBounds_ne (by omega)]
    · cases k with
      | zero =>
        rw [Nat.add_zero, h3 o (by omega)]
        simp only [Nat.add_zero] at hb
        simp [hb]
      | succ k =>
        have := h4 k (by simpa using hk) (by simpa using (by omega : o + 1 + k < cs.size))
        rw [show o + (k + 1) = o + 1 + k from by omega, this]
        simp
    · rw [h5 k (by simp at hk; omega), Array.getElem?_setIfInBounds_ne (by simp at hk; omega)]
theorem Fr.setCells {F : Nat → Prop} {a : World} {b : Nat} (vs : List Value) : ∀ (o : Nat) {w : World}, Fr F a w → (F b ∨ a.heap.size ≤ b) → Fr F a (w.setCells b o vs) := by
  induction vs with
  | nil => intro o w h _; exact h
  | cons v vs ih => intro o w h hb; exact ih (o + 1) (h.setCell hb v) hb

/-- Without one number. -/
abbrev less (x : Int) (l : List Int) : List Int := l.filter (fun y => !(y == x))

/-- What stands in the row while 'DeleteFunc' goes on: a numbers are kept of the first b ones. -/
def DInv (w wr : World) (g cap : Nat) (l : List Int) (x : Int) (a b : Nat) : Prop :=
  ∃ cur : Array Value, wr.heap[g]? = some (.cells cur 3 (0, 0)) ∧ cur.size = cap ∧ a = (less x (l.take b)).length ∧ cur.toList.take a = ints (less x (l.take b)) ∧
    (∀ t, b ≤ t → (h : t < l.length) → cur[t]? = some (.int .i64 l[t])) ∧ Fr (fun k => some g = some k) w wr

theorem less_snoc_keep {x : Int} {l : List Int} {b : Nat} (h : b < l.length) (hx : (l[b] == x) = false) : less x (l.take (b + 1)) = less x (l.take b) ++ [l[b]] := by
  rw [List.take_succ_eq_append_getElem h, less, List.filter_append]
  simp [hx]
theorem less_snoc_drop {x : Int} {l : List Int} {b : Nat} (h : b < l.length) (hx : (l[b] == x) = true) : less x (l.take (b + 1)) = less x (l.take b) := by
  rw [List.take_succ_eq_append_getElem h, less, List.filter_append]
  simp [hx]
theorem less_none {x : Int} {l : List Int} (h : x ∉ l) : less x l = l := by
  rw [less, List.filter_eq_self]
  intro y hy
  simp
  rintro rfl
  exact h hy
theorem less_len (x : Int) (l : List Int) (b : Nat) : (less x (l.take b)).length ≤ b := Nat.le_trans (List.length_filter_le _ _) (by simp; omega)

theorem DInv.keep {w wr : World} {g cap : Nat} {l : List Int} {x : Int} {a b : Nat} (h : DInv w wr g cap l x a b) (hab : a < b) (hb : b < l.length) (hx : (l[b] == x) = false) (hcap : l.length ≤ cap) :
    DInv w (wr.setCell ⟨g, a, none⟩ (.int .i64 l[b])) g cap l x (a + 1) (b + 1) := by
  obtain ⟨cur, h1, h2, h3, h4, h5, h6⟩ := h
  refine ⟨cur.setIfInBounds a (.int .i64 l[b]), blk_set h1 _, by simpa using h2, ?_, ?_, fun t ht hl => ?_, h6.setCell (Or.inl rfl) _⟩
  · rw [less_snoc_keep hb hx]; simp [h3]
  · rw [less_snoc_keep hb hx]
    have hlt : a < cur.size := by omega
    rw [List.take_succ_eq_append_getElem (by simpa using hlt)]
    simp only [Array.toList_setIfInBounds, List.getElem_set_self, ints, List.map_append, List.map_cons, List.map_nil]
    congr 1
    rw [List.take_set_of_le (Nat.le_refl _)]
    exact h4
  · rw [Array.getElem?_setIfInBounds_ne (by omega)]
    exact h5 t (by omega) hl
theorem DInv.drop {w wr : World} {g cap : Nat} {l : List Int} {x : Int} {a b : Nat} (h : DInv w wr g cap l x a b) (hb : b < l.length) (hx : (l[b] == x) = true) :
    DInv w wr g cap l x a (b + 1) := by
  obtain ⟨cur, h1, h2, h3, h4, h5, h6⟩ := h
  refine ⟨cur, h1, h2, ?_, ?_, fun t ht hl => h5 t (by omega) hl, h6⟩
  · rw [less_snoc_drop hb hx]; exact h3
  · rw [less_snoc_drop hb hx]; exact h4

theorem idx_spec {x : Int} {l : List Int} (h : x ∈ l) : ∃ k, ∃ hk : k < l.length, idx x l = k ∧ l[k] = x ∧ x ∉ l.take k := by
  induction l with
  | nil => simp at h
  | cons y l ih =>
    by_cases hy : x = y
    · exact ⟨0, by simp, by simp [idx, hy], by simp [hy], by simp⟩
    · have hm : x ∈ l := by simpa [hy] using h
      obtain ⟨k, hk, h1, h2, h3⟩ := ih hm
      refine ⟨k + 1, by simpa using hk, ?_, by simpa using h2, ?_⟩
      · rw [idx, if_neg hy, h1, if_neg (by omega)]; rfl
      · simp only [List.take_succ_cons, List.mem_cons, not_or]; exact ⟨hy, h3⟩
theorem DInv.start {w : World} {g cap : Nat} {l : List Int} {x : Int} {k : Nat} {cur : Array Value} (hg : w.heap[g]? = some (.cells cur 3 (0, 0))) (hs : cur.size = cap * 1) (htake : cur.toList.take (l.length * 1) = ints l) (hn : l.length ≤ cap)
    (hk : k < l.length) (hlk : l[k] = x) (hnt : x ∉ l.take k) : DInv w w g cap l x k (k + 1) := by
  have hle : less x (l.take (k + 1)) = l.take k := by
    rw [less_snoc_drop hk (by simp [hlk]), less_none hnt]
  rw [Nat.mul_one] at hs htake
  have hget : ∀ t, (h : t < l.length) → cur[t]? = some (.int .i64 l[t]) := by
    intro t h
    have := congrArg (fun l : List Value => l[t]?) htake
    simp only [List.getElem?_take, h, if_true, ints_get] at this
    simpa using this
  refine ⟨cur, hg, hs, by rw [hle]; simp; omega, ?_, fun t _ h => hget t h, Fr.refl _ _⟩
  rw [hle]
  apply List.ext_getElem?
  intro t
  rw [List.getElem?_take]
  split
  · rename_i ht
    have h1 : t < l.length := by omega
    rw [show cur.toList[t]? = cur[t]? from by simp, hget t h1]
    simp [ht, h1, ints]
  · rename_i ht
    simp [ht]
    omega
theorem DInv.cellC {w wr : World} {g cap : Nat} {l : List Int} {x : Int} {a b c : Nat} {v : Value} (h : DInv w wr g cap l x a b) (hc : w.cell? ⟨c, 0, none⟩ = some v) (hl : c < w.heap.size) (hg : g ≠ c) : wr.cell? ⟨c, 0, none⟩ = some v := by
  obtain ⟨cur, h1, h2, h3, h4, h5, h6⟩ := h
  exact (h6.cell hl (fun e => hg (by simpa using e))).trans hc
theorem DInv.cellB {w wr : World} {g cap : Nat} {l : List Int} {x : Int} {a b : Nat} (h : DInv w wr g cap l x a b) (hb : b < l.length) : wr.cell? ⟨g, b, none⟩ = some (.int .i64 l[b]) := by
  obtain ⟨cur, h1, h2, h3, h4, h5, h6⟩ := h
  rw [cell_blk h1]
  exact h5 b (Nat.le_refl _) hb
theorem DInv.cellA {w wr : World} {g cap : Nat} {l : List Int} {x : Int} {a b i : Nat} (h : DInv w wr g cap l x a b) (hi : i < cap) : ∃ u, wr.cell? ⟨g, i, none⟩ = some u := by
  obtain ⟨cur, h1, h2, h3, h4, h5, h6⟩ := h
  exact ⟨cur[i], by rw [cell_blk h1]; simp [h2, hi]⟩
theorem DInv.free {w wr : World} {g cap : Nat} {l : List Int} {x : Int} {a b : Nat} (h : DInv w wr g cap l x a b) (i : Nat) : wr.frozen? ⟨g, i, none⟩ = false := by
  obtain ⟨cur, h1, h2, h3, h4, h5, h6⟩ := h
  exact free_blk h1 i

/-- What 'DeleteFunc' leaves. -/
def DPost (w : World) (v : Value) (l' : List Int) (e : Ending) (w' : World) : Prop :=
  ∃ ao cap, e = .returned (.slice ao l'.length cap) ∧ w'.ownsRow 0 3 1 (.slice ao l'.length cap) l'.length (ints l') ∧ Fr (fun k => v.ownBlock = some k) w w' ∧ (Value.slice ao l'.length cap).ownBlock = v.ownBlock

theorem zeroInt (w : World) : (zeroValue 3).run Try.prog w = .ok (.int .i64 0) w := by kernel_rfl

theorem DInv.last {w wr : World} {g cap : Nat} {l : List Int} {x : Int} {a b : Nat} (h : DInv w wr g cap l x a b) (hb : l.length ≤ b) (hcap : l.length ≤ cap) (hm : cap ≤ maxLen) :
    DPost w (.slice (some ⟨g, 0, none⟩) l.length cap) (less x l) (.returned (.slice (some ⟨g, 0, none⟩) a cap)) (wr.setCells g a (List.replicate (l.length - a) (.int .i64 0))) := by
  obtain ⟨cur, h1, h2, h3, h4, h5, h6⟩ := h
  rw [List.take_of_length_le hb] at h3 h4
  obtain ⟨cs, e1, e2, e3, e4, e5⟩ := blk_setCells (List.replicate (l.length - a) (.int .i64 0)) a wr cur h1
  have hle : (less x l).length ≤ l.length := List.length_filter_le _ _
  refine ⟨_, _, by rw [h3], ⟨by simp, Or.inr ⟨g, cap, cs, rfl, Nat.zero_le _, e1, by omega, hm, by omega, ?_⟩⟩, Fr.setCells _ _ h6 (Or.inl rfl), rfl⟩
  rw [← h4, ← h3, Nat.mul_one]
  apply List.ext_getElem?
  intro k
  rw [List.getElem?_take, List.getElem?_take]
  split
  · rename_i hk
    simpa using e3 k hk
  · rfl

set_option maxHeartbeats 1000000 in
theorem deleteFunc_any (v : Value) (l : List Int) (x : Int) (c : Nat) (w : World) (h : w.ownsRow 0 3 1 v l.length (ints l)) (hcc : w.cell? ⟨c, 0, none⟩ = some (.int .i64 x)) (hne : v.ownBlock ≠ some c) (hcl : c < w.heap.size) :
    Calls Try.prog 55 #[v, isId c] w (DPost w v (less x l)) := by
  have HC := Lib.hid hcc
  have HR := Lib.hid (RowAt.of_owns h)
  by_cases hx : x ∈ l
  · obtain ⟨_, h⟩ := h
    rcases h with ⟨rfl, h0⟩ | ⟨g, cap, cur, rfl, _, hg, hn, hm, hs, htake⟩
    · have : l = [] := by simpa using h0
      simp [this] at hx
    · obtain ⟨k, hk, hidx, hlk, hnt⟩ := idx_spec hx
      have hD : DInv w w g cap l x k (k + 1) := DInv.start hg hs htake hn hk hlk hnt
      have HD := Lib.hid hD
      have HX := Lib.hid hidx
      have hk1 : ((k : Int) == -1) = false := by simp
      have hgc : g ≠ c := fun e => hne (by simp [Value.ownBlock, e])
      have hm' : cap ≤ 9223372036854775807 := by unfold maxLen at hm; omega
      have Hm := Lib.hid hm
      clear hD hidx hx hcc hs htake hne hlk hnt hm hg
      go_enter Try.func55, Try.ntmps55
      go_wp2_with (go_at_call 63; refine (indexFunc_any _ _ _ l x c _ HR.out HC.out).mono ?_; rw [HX.out]; rintro e w' ⟨rfl, rfl⟩)
      go_loopw [5, 6] (fun i j wr => ∃ a b : Nat, i = .int .i64 a ∧ j = .int .i64 b ∧ a < b ∧ b ≤ l.length ∧ DInv w wr g cap l x a b) (fun _ j _ => l.length - (intOf j).toNat)
      case atStart => exact ⟨k, k + 1, rfl, by go_num, by omega, by omega, HD.out⟩
      case round =>
        obtain ⟨a, b, rfl, rfl, hab, hb, hD⟩ := hrel
        have HDr := Lib.hid hD
        have hcc : wr.cell? ⟨c, 0, none⟩ = some (.int .i64 x) := hD.cellC HC.out hcl hgc
        by_cases hlt : b < l.length
        · have hcell : wr.cell? ⟨g, b, none⟩ = some (.int .i64 l[b]) := hD.cellB hlt
          by_cases hq : (l[b] == x) = true
          · have HQ := Lib.hid hq
            clear hD
            go_wp2_with (go_at_call 56; refine (go1_any _ x c _ hcc).mono ?_; rintro e w' ⟨rfl, rfl⟩)
            go_roundw
            case rel => exact ⟨a, b + 1, rfl, by go_num, by omega, by omega, HDr.out.drop hlt HQ.out⟩
            case measure => simp [intOf] <;> omega
          · have hq' : (l[b] == x) = false := by simpa using hq
            have HQ := Lib.hid hq'
            obtain ⟨u, hca⟩ := hD.cellA (by omega : a < cap)
            have hfa := hD.free a
            clear hD hq
            go_wp2_with (go_at_call 56; refine (go1_any _ x c _ hcc).mono ?_; rintro e w' ⟨rfl, rfl⟩)
            go_roundw
            case rel => exact ⟨a + 1, b + 1, by go_num, by go_num, by omega, by omega, HDr.out.keep hab hlt HQ.out hn⟩
            case measure => simp [intOf] <;> omega
        · have hclr : ∀ ty, (Builtin.clear_ #[34] ty #[.slice (some ⟨g, a, none⟩) (l.length - a) (cap - a)]).run Try.prog wr = .ok (.tuple #[]) (wr.setCells g a (List.replicate (l.length - a) (.int .i64 0))) :=
            fun ty => Lib.run_clear_slice wr 34 3 ty (.int .i64 0) Try.underlying34 zeroInt rfl rfl g a (l.length - a) (cap - a) (by omega) (fun j hj => by obtain ⟨u, hu⟩ := hD.cellA (by omega : a + j < cap); rw [hu]; rfl) (fun j hj => hD.free _)
          clear hD
          have hca : ¬ cap = a := by omega
          go_wp2
          go_ret
          exact HDr.out.last (by omega) hn Hm.out
  · have hd := Lib.hid (idx_none hx)
    have Hl := Lib.hid (less_none hx)
    have H := Lib.hid h
    clear h hcc hx
    go_enter Try.func55, Try.ntmps55
    go_wp2_with (go_at_call 63; refine (indexFunc_any _ v _ l x c _ HR.out HC.out).mono ?_; rw [hd.out]; rintro e w' ⟨rfl, rfl⟩)
    go_ret
    rw [Hl.out]
    obtain ⟨ao, cap, rfl⟩ := ownsRow_slice H.out
    exact ⟨_, _, rfl, H.out, Fr.refl _ _, rfl⟩

theorem prioOf_spec {r : Nat → List Int} {x : Int} : ∀ (n k p : Nat), prioOf r x n k = some p → k ≤ p ∧ p < k + n ∧ x ∈ r p := by
  intro n
  induction n with
  | zero => intro k p h; simp [prioOf] at h
  | succ n ih =>
    intro k p h
    rw [prioOf] at h
    split at h
    · rename_i hm
      simp only [Option.some.injEq] at h
      subst h
      exact ⟨Nat.le_refl _, by omega, hm⟩
    · have := ih _ _ h
      exact ⟨by omega, by omega, this.2.2⟩
theorem prio_spec {r : Nat → List Int} {x : Int} {p : Nat} (h : prio r x = some p) : p < 101 ∧ x ∈ r p := by
  have := prioOf_spec _ _ _ h
  exact ⟨by omega, this.2.2⟩

def goC (r : Nat → List Int) (id : Int) : Int := if (prio r id).isSome then 0 else 6
def goR (r : Nat → List Int) (id : Int) : Nat → List Int := match prio r id with | some p => upd r p (less id (r p)) | none => r

set_option maxHeartbeats 1000000 in
theorem go_any (q : Nat) (r : Nat → List Int) (F : Nat → Prop) (id : Int) (w : World) (h : QRep w q r F) :
    Calls Try.prog 44 #[.pointer (some ⟨q, 0, none⟩), .int .i64 id] w (QPost w q (goR r id) F (goC r id)) := by
  have H0 := Lib.hid h
  have h1 : QRep (w.alloc (.cells #[.int .i64 id] 3)) q r F := h.fr (G := fun _ => False) ((Fr.refl _ _).alloc _) (fun _ _ h => h)
  have H := Lib.hid h1
  cases hp : prio r id with
  | none =>
    have hp' : (prio r id).isSome = false := by simp [hp]
    have Hc : Hid (goC r id = 6 ∧ goR r id = r) := by simp [Hid, goC, goR, hp]
    clear h h1 hp
    go_enter Try.func44, Try.ntmps44
    go_wp2_with (go_at_call 48; refine (prio_any q r F id _ H.out).mono ?_; rintro e w' ⟨rfl, rfl⟩)
    go_ret
    rw [Hc.out.1, Hc.out.2]
    exact ⟨rfl, F, H.out, (Fr.refl _ _).alloc _, Gro.refl _ _⟩
  | some p =>
    have hp' : (prio r id).isSome = true := by simp [hp]
    have hpN : prioN (prio r id) = (p : Int) := by simp [hp, prioN]
    obtain ⟨hlt, _⟩ := prio_spec hp
    have hlti : (p : Int) < 101 := by omega
    have Hc : Hid (goC r id = 0 ∧ goR r id = upd r p (less id (r p))) := by simp [Hid, goC, goR, hp]
    obtain ⟨v, hv, hown, hob⟩ := h1.owns p hlt
    have HO := Lib.hid hown.drew
    have HB := Lib.hid hob
    have HC := Lib.hid (show ((w.alloc (.cells #[.int .i64 id] 3)).drew).cell? ⟨w.heap.size, 0, none⟩ = some (.int .i64 id) from World.cell?_alloc_at _ _ _ _ rfl)
    have hob0 : ∀ g, v.ownBlock = some g → g < w.heap.size := fun g e => h.lt g (hob g e).1
    have hne : v.ownBlock ≠ some w.heap.size := fun e => by have := hob0 _ e; omega
    have HN := Lib.hid hne
    have hfr := h1.free p
    have hq := h1.qlt
    have hq0 := h.qlt
    clear h h1 hown hob hp hob0 hne
    go_enter Try.func44, Try.ntmps44
    go_wp2_with (go_at_call 48; refine (prio_any q r F id _ H.out).mono ?_; rintro e w' ⟨rfl, rfl⟩)
    go_region_with (go_at_call 55; refine (deleteFunc_any v (r p) id w.heap.size _ HO.out HC.out HN.out (by simp)).mono ?_; rintro e w2 ⟨ao2, cap2, rfl, hown2, hf2, hb2⟩; have k0 : w2.cell? ⟨q, p, none⟩ = some v := (hf2.cell (by simp; omega) (fun e => (HB.out q e).2 rfl)).trans hv; have k1 : w2.frozen? ⟨q, p, none⟩ = false := (hf2.frozen (by simp; omega) (fun e => (HB.out q e).2 rfl)).trans hfr)
    all_goals
      go_wp2
      go_ret
      rw [Hc.out.1, Hc.out.2]
      have hs := H.out.store hlt (w1 := w2) hv (v' := .slice ao2 _ cap2) (l' := less id (r p)) ((Fr.refl _ _).drew.trans hf2) hown2 (fun k e => ⟨Or.inl (hb2 ▸ e), (ownsRow_lt hown2 e).2⟩)
      exact ⟨rfl, _, hs.1, (((Fr.refl _ _).alloc _).trans hs.2.1), fun k hk => by
        rcases hs.2.2 k hk with h | h
        · exact Or.inl h
        · simp at h; exact Or.inr (by omega)⟩

end Go.Proofs.Ytbedknfapiadbaa
