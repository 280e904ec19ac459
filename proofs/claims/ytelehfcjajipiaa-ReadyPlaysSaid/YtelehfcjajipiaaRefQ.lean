/-
  The document's queue: how its list lies in memory, and the walks of 'may', 'find', 'First', 'All' and of 'Ints'.
-/
import Derived.Test.YtelehfcjajipiaaPlaysP
import Derived.Test.YtelehfcjajipiaaAppR
import Derived.Test.YtelehfcjajipiaaOrderP
import Derived.Deep.QuietTactic
import Derived.BigQuiet
namespace Go.Proofs.Ytelehfcjajipiaa.readyPlays
open Go.RowKit Go.Proofs.Ytelehfcjajipiaa

theorem same_drawn {w : World} (n : Nat) : Below w.heap.size w (w.drewN n) := ⟨rfl, rfl, rfl, Nat.le_refl _, fun _ _ => rfl⟩
/-- Members as cells. -/
def mcells (L : List MemM) : List Value := L.flatMap (fun m => [.int .i64 m.id, .int .i64 m.prio])
theorem mcells_append (L M : List MemM) : mcells (L ++ M) = mcells L ++ mcells M := by simp [mcells]
theorem mcells_len (L : List MemM) : (mcells L).length = L.length * 2 := by
  induction L with
  | nil => rfl
  | cons m L ih =>
    have : mcells (m :: L) = [.int .i64 m.id, .int .i64 m.prio] ++ mcells L := rfl
    rw [this, List.length_append, ih]
    simp
    omega
theorem mcells_get : ∀ {L : List MemM} {i : Nat} (hi : i < L.length), (mcells L)[i * 2]? = some (.int .i64 L[i].id) ∧ (mcells L)[i * 2 + 1]? = some (.int .i64 L[i].prio)
  | m :: L, 0, _ => ⟨rfl, rfl⟩
  | m :: L, i + 1, hi => by
    have e : mcells (m :: L) = [.int .i64 m.id, .int .i64 m.prio] ++ mcells L := rfl
    obtain ⟨a, b⟩ := mcells_get (L := L) (i := i) (by simpa using hi)
    have sh : ∀ j, ([.int .i64 m.id, .int .i64 m.prio] ++ mcells L)[(i + 1) * 2 + j]? = (mcells L)[i * 2 + j]? := by
      intro j
      rw [List.getElem?_append_right (by simp; omega)]
      congr 1
      simp
      omega
    rw [e]
    exact ⟨(sh 0).trans a, (sh 1).trans b⟩
theorem mcells_one {L : List MemM} : ∀ u ∈ mcells L, u.oneCell' = true := by
  intro u hu
  obtain ⟨t, _, h⟩ := List.mem_flatMap.1 hu
  simp at h
  rcases h with rfl | rfl <;> rfl

/-- The list's own row. -/
def MRow (w : World) (G : Nat → Prop) (p : Nat) (a : Option Addr) (c : Nat) (L : List MemM) : Prop :=
  (a = none ∧ L = [] ∧ c = 0) ∨ ∃ g, a = some ⟨g, 0, none⟩ ∧ G g ∧ g ≠ p ∧ L.length ≤ c ∧ c ≤ 9223372036854775807 ∧ ∀ j u, (mcells L)[j]? = some u → w.cell? ⟨g, j, none⟩ = some u
/-- The document's queue at p. -/
structure RQ (w : World) (p : Nat) (L : List MemM) (G : Nat → Prop) : Prop where
  gp : G p
  lt : ∀ k, G k → k < w.heap.size
  at' : ∃ a c, w.heap[p]? = some (.cells #[.slice a L.length c] 43 (0, 0)) ∧ MRow w G p a c L
theorem MRow.fr {w w' : World} {G F : Nat → Prop} {p : Nat} {a : Option Addr} {c : Nat} {L : List MemM} (h : MRow w G p a c L) (hl : ∀ k, G k → k < w.heap.size) (hf : Fr F w w') (hG : ∀ k, G k → ¬ F k) : MRow w' G p a c L := by
  rcases h with h | ⟨g, e, hg, h⟩
  · exact .inl h
  · exact .inr ⟨g, e, hg, h.1, h.2.1, h.2.2.1, fun j u hu => (hf.cell (p := ⟨g, j, none⟩) (hl g hg) (hG g hg)).trans (h.2.2.2 j u hu)⟩
theorem RQ.fr {w w' : World} {p : Nat} {L : List MemM} {G F : Nat → Prop} (h : RQ w p L G) (hf : Fr F w w') (hG : ∀ k, G k → ¬ F k) : RQ w' p L G := by
  obtain ⟨a, c, hb, hr⟩ := h.at'
  exact ⟨h.gp, fun k hk => Nat.lt_of_lt_of_le (h.lt k hk) hf.size, a, c, hf.blk hb (hG p h.gp), hr.fr h.lt hf hG⟩
theorem RQ.later {w w' : World} {p : Nat} {L : List MemM} {G : Nat → Prop} (h : RQ w p L G) (hb : Below w.heap.size w w') : RQ w' p L G := h.fr (Fr.of_below (F := fun _ => False) hb) (fun _ _ h => h)
/-- A new one. -/
theorem RQ.new (w : World) : RQ (w.alloc (.cells #[.slice none 0 0] 43)) w.heap.size [] (fun k => k = w.heap.size) :=
  ⟨rfl, fun k hk => by simp [hk], none, 0, blk_new _ _, .inl ⟨rfl, rfl, rfl⟩⟩

/-- What a call leaves of the document's queue. -/
def RPost (w : World) (p : Nat) (L' : List MemM) (G : Nat → Prop) (c : Int) (e : Ending) (w' : World) : Prop :=
  e = .returned (.int .i64 c) ∧ ∃ G', RQ w' p L' G' ∧ Fr G w w' ∧ Gro G G' w

set_option maxHeartbeats 1000000 in
theorem rmay_any (a b : Int) (w : World) :
    Calls Try.prog 26 #[.int .i64 a, .int .i64 b] w fun e w' => e = .returned (.bool (mayB a b)) ∧ w = w' := by
  go_enter Try.func26, Try.ntmps26
  go_wp2
  all_goals
    go_ret
    exact ⟨ret_bool (by rw [Bool.eq_iff_iff]; simp [mayB, *]; try omega), rfl⟩

theorem ids_get {L : List MemM} {k : Nat} (hk : k < L.length) : (ids L)[k]'(by simpa [ids] using hk) = L[k].id := by simp [ids]
theorem ids_len (L : List MemM) : (ids L).length = L.length := by simp [ids]

set_option maxHeartbeats 1000000 in
theorem rfind_any (p : Nat) (L : List MemM) (G : Nat → Prop) (x : Int) (w : World) (h : RQ w p L G) :
    Calls Try.prog 27 #[.pointer (some ⟨p, 0, none⟩), .int .i64 x] w fun e w' => e = .returned (.int .i64 (idx x (ids L))) ∧ w = w' := by
  obtain ⟨a, c, hb, hr⟩ := h.at'
  have hc0 := cell_blk hb 0
  clear hb h
  simp only [List.getElem?_toArray, List.getElem?_cons_zero] at hc0
  rcases hr with ⟨rfl, rfl, rfl⟩ | ⟨g, rfl, _, _, hlc, hcm, hcell⟩
  · go_enter Try.func27, Try.ntmps27
    go_wp2
    refine wp_loop_rounds 1 ?_
    rw [rounds_succ]
    go_wp2
    go_ret
    exact ⟨rfl, rfl⟩
  · have HC := Lib.hid hcell
    have hL63 : L.length ≤ 9223372036854775807 := by omega
    clear hcell hlc hcm
    go_enter Try.func27, Try.ntmps27
    go_wp2
    go_loop [5] (fun i => ∃ k : Nat, k ≤ L.length ∧ i = .int .i64 k ∧ Box (x ∉ (ids L).take k)) (fun i => L.length - (intOf i).toNat)
    case atStart => exact ⟨0, Nat.zero_le _, rfl, ⟨by simp⟩⟩
    case round =>
      obtain ⟨k, hk, rfl, HX⟩ := hrel
      by_cases hlt : k < L.length
      · have hcl := HC.out _ _ (mcells_get hlt).1
        have hg := ids_get hlt
        have hkl : k < (ids L).length := by rw [ids_len]; exact hlt
        by_cases hq : x = L[k].id
        · have HR : Box (idx x (ids L) = (k : Int)) := ⟨idx_at k hkl HX.out (by rw [hg]; exact hq)⟩
          have hq' : (L[k].id == x) = true := by simp [hq]
          clear hq hg hkl
          generalize L[k].id = y at hcl hq'
          go_wp2
          go_ret
          exact ⟨ret_int HR.out.symm, rfl⟩
        · have HR : Box (x ∉ (ids L).take (k + 1)) := ⟨not_mem_take_succ hkl HX.out (by rw [hg]; exact hq)⟩
          have hq' : (L[k].id == x) = false := by simp; exact fun e => hq e.symm
          clear hq hg hkl
          generalize L[k].id = y at hcl hq'
          go_wp2
          go_round
          case rel => exact ⟨k + 1, by omega, by go_num, HR⟩
          case measure => simp [intOf]; omega
      · have HR : Box (idx x (ids L) = -1) := ⟨idx_none (by have := HX.out; rwa [List.take_of_length_le (by rw [ids_len]; omega)] at this)⟩
        go_wp2
        go_ret
        exact ⟨ret_int HR.out.symm, rfl⟩

set_option maxHeartbeats 1000000 in
theorem rfirst_any (p : Nat) (L : List MemM) (G : Nat → Prop) (w : World) (h : RQ w p L G) :
    Calls Try.prog 18 #[.pointer (some ⟨p, 0, none⟩)] w fun e w' => e = .returned (firstL L) ∧ Below w.heap.size w w' := by
  obtain ⟨a, c, hb, hr⟩ := h.at'
  have hc0 := cell_blk hb 0
  clear hb h
  simp only [List.getElem?_toArray, List.getElem?_cons_zero] at hc0
  rcases hr with ⟨rfl, rfl, rfl⟩ | ⟨g, rfl, _, _, hlc, hcm, hcell⟩
  · go_enter Try.func18, Try.ntmps18
    go_wp2
    go_ret3
    exact ⟨rfl, Below.refl _ _⟩
  · cases L with
    | nil =>
      clear hcell
      simp only [List.length_nil] at hc0
      go_enter Try.func18, Try.ntmps18
      go_wp2
      go_ret3
      exact ⟨rfl, Below.refl _ _⟩
    | cons m M =>
      have d0 := hcell 0 _ rfl
      have d1 := hcell 1 _ rfl
      obtain ⟨n, hn⟩ : ∃ n, (m :: M).length = n := ⟨_, rfl⟩
      have hn1 : 1 ≤ n := by rw [← hn]; simp
      rw [hn] at hc0 hlc
      clear hcell hn
      have hz : ((n : Int) == 0) = false := beq_eq_false_iff_ne.2 (by omega)
      have hni : (0 : Int) < n := by omega
      have hn63 : (n : Int) ≤ 9223372036854775807 := by omega
      go_enter Try.func18, Try.ntmps18
      go_wp2
      go_quiet (fail)
      go_wp2
      go_ret3
      exact ⟨rfl, by first | exact Below.refl _ _ | exact same_drawn _⟩

set_option maxHeartbeats 2000000 in
theorem rall_any (p : Nat) (L : List MemM) (G : Nat → Prop) (w : World) (h : RQ w p L G) (hlen : L.length ≤ 1000000) :
    Calls Try.prog 20 #[.pointer (some ⟨p, 0, none⟩)] w fun e w' => ∃ ao cap, e = .returned (.slice ao L.length cap) ∧
      w'.ownsRow w.heap.size 3 1 (.slice ao L.length cap) L.length (ints (ids L)) ∧ Below w.heap.size w w' := by
  obtain ⟨a, c, hb, hr⟩ := h.at'
  have hc0 := cell_blk hb 0
  have hpl := lt_blk hb
  simp only [List.getElem?_toArray, List.getElem?_cons_zero] at hc0
  rcases hr with ⟨rfl, rfl, rfl⟩ | ⟨g, rfl, hGg, _, hlc, hcm, hcell⟩
  · clear hb h
    go_enter Try.func20, Try.ntmps20
    go_wp2
    refine wp_loop_rounds 1 ?_
    rw [rounds_succ]
    go_wp2
    go_ret
    exact ⟨_, _, rfl, World.ownsRow_nil _ _ _ _, Below.refl _ _⟩
  · have HC := Lib.hid hcell
    have HC0 := Lib.hid hc0
    have hgl := h.lt g hGg
    obtain ⟨i0, hi, hz0, hz1, hz2⟩ := info_parts Try.infoInt
    obtain ⟨n, hn⟩ : ∃ n, L.length = n := ⟨_, rfl⟩
    have HN := Lib.hid hn
    rw [hn] at hc0 hlc hlen ⊢
    clear hcell hb h hn HC0
    have HC0 := Lib.hid hc0
    go_enter Try.func20, Try.ntmps20
    go_wp2
    clear hc0
    go_loopw [3, 4] (fun s i wr => ∃ (k : Nat) (a9 : Option Addr) (c9 : Nat), k ≤ n ∧ i = .int .i64 k ∧ s = .slice a9 k c9 ∧ Mid w 3 1 a9 k c9 (ints ((ids L).take k)) wr) (fun _ i _ => n - (intOf i).toNat)
    case atStart => exact ⟨0, none, 0, Nat.zero_le _, rfl, rfl, ⟨World.ownsRow_nil _ _ _ _, Below.refl _ _⟩⟩
    case round =>
      obtain ⟨k, a9, c9, hk, rfl, rfl, hmid⟩ := hrel
      have HM := Lib.hid hmid
      have hc1 := (hmid.bel.cell (p := ⟨p, 0, none⟩) hpl).trans HC0.out
      clear hmid
      by_cases hlt : k < n
      · have hlL : k < L.length := by rw [HN.out]; exact hlt
        have hcl := (HM.out.bel.cell (p := ⟨g, k * 2, none⟩) hgl).trans (HC.out _ _ (mcells_get hlL).1)
        have HS : Box (ints ((ids L).take (k + 1)) = ints ((ids L).take k) ++ [.int .i64 L[k].id]) := ⟨by
          rw [List.take_succ_eq_append_getElem (by rw [ids_len]; exact hlL), ids_get hlL]; simp⟩
        generalize L[k].id = y at hcl HS
        clear hlL
        go_wp2_with (at_builtin; refine wpList_append_lies _ rfl (.tmp 14) (.tmp 23) 31 rfl w.heap.size 3 i0 (.int .i64 0) 1 8 Try.underlying31 hi hz0 hz1 hz2 rfl (by decide) (.slice a9 k c9) k (ints ((ids L).take k)) rfl (HM.out.own.alloc _) ⟨wr.heap.size, 0, none⟩ 1 1 [.int .i64 y] rfl rfl (World.news_of_block (cs := #[.int .i64 y]) (blk_new _ _)) ?h1 (by omega) ?b1 ?b2 ?b3 _ rfl ?next)
        case h1 => simp [Value.oneCell']
        case b1 => unfold maxLen; omega
        case b2 => omega
        case b3 => exact Nat.le_trans HM.out.bel.size (by simp)
        case next =>
          intro g3 c3 w3 ho3 hg3 _ _
          have HE := Lib.hid (HM.out.fin rfl ((Below.refl _ _).alloc (Nat.le_refl _) _) ho3 hg3)
          clear ho3 hg3
          go_wp2
          go_roundw
          case rel => exact ⟨k + 1, _, _, by omega, by go_num, rfl, by rw [HS.out]; simpa [List.map_take] using HE.out⟩
          case measure => simp [intOf] <;> omega
      · obtain rfl : n = k := by omega
        clear hlt hk
        go_wp2
        go_ret
        exact ⟨_, _, rfl, by have := HM.out.own; rwa [List.take_of_length_le (by rw [ids_len, HN.out]; exact Nat.le_refl _)] at this, HM.out.bel⟩

set_option maxHeartbeats 2000000 in
/-- 'Ints' at rows of the same numbers. -/
theorem rints_any (G G' : Nat → Prop) (a a' : Option Addr) (n c c' : Nat) (l : List Int) (w : World) (h : RowAt w G (.slice a n c) n 1 (ints l)) (h2 : RowAt w G' (.slice a' n c') n 1 (ints l)) (hn63 : n ≤ 1000000) :
    Calls Try.prog 19 #[.slice a n c, .slice a' n c'] w fun e w' => e = .returned (.bool true) ∧ Below w.heap.size w w' := by
  have hl := h.1
  have hln : l.length = n := by simpa using hl
  have hnn : ((n : Int) == (n : Int)) = true := by simp
  rcases h.2 with ⟨e1, h0⟩ | ⟨b, off, cap, e1, _, _, _, hb, hc⟩
  · obtain rfl := h0
    clear h h2 hl hln
    go_enter Try.func19, Try.ntmps19
    go_wp2
    refine wp_loop_rounds 1 ?_
    rw [rounds_succ]
    go_wp2
    go_ret
    exact ⟨rfl, Below.refl _ _⟩
  · rcases h2.2 with ⟨e2, h0⟩ | ⟨b', off', cap', e2, _, _, _, hb', hc'⟩
    · obtain rfl := h0
      clear h h2 hl hln hc
      go_enter Try.func19, Try.ntmps19
      go_wp2
      refine wp_loop_rounds 1 ?_
      rw [rounds_succ]
      go_wp2
      go_ret
      exact ⟨rfl, Below.refl _ _⟩
    · injection e1 with e1 _ e3
      injection e2 with e2 _ e4
      subst e1
      subst e2
      have HC := Lib.hid hc
      have HC2 := Lib.hid hc'
      have HL := Lib.hid hln
      clear h h2 hl hc hc' hln hnn e3 e4
      go_enter Try.func19, Try.ntmps19
      go_wp2
      go_loopw [5] (fun i wr => ∃ k : Nat, k ≤ n ∧ i = .int .i64 k ∧ Below w.heap.size w wr) (fun i _ => n - (intOf i).toNat)
      case atStart => exact ⟨0, Nat.zero_le _, rfl, Below.refl _ _⟩
      case round =>
        obtain ⟨k, hk, rfl, hbel⟩ := hrel
        have HB := Lib.hid hbel
        clear hbel
        by_cases hlt : k < n
        · have hlL : k < l.length := by rw [HL.out]; exact hlt
          have d0 := (HB.out.cell (p := ⟨b, off + k, none⟩) hb).trans (HC.out _ _ (ints_get hlL))
          have d1 := (HB.out.cell (p := ⟨b', off' + k, none⟩) hb').trans (HC2.out _ _ (ints_get hlL))
          generalize l[k] = y at d0 d1
          have hyy : (y == y) = true := by simp
          have hki : (k : Int) < n := by omega
          have hk0 : (0 : Int) ≤ k := by omega
          clear hlL
          go_wp2
          go_quiet (fail)
          go_wp2
          go_roundw
          case rel => exact ⟨k + 1, by omega, by go_num, by first | exact HB.out | exact HB.out.trans ((same_drawn _).mono HB.out.size)⟩
          case measure => simp [intOf] <;> omega
        · go_wp2
          go_ret
          exact ⟨rfl, HB.out⟩

end Go.Proofs.Ytelehfcjajipiaa.readyPlays
