/-
  The document's wheel against the wheel, plainly.
-/
import Derived.Test.YthlaebleaooeiaaRwD
import Derived.Test.YthlaebleaooeiaaWhT
namespace Go.Proofs.Ythlaebleaooeiaa
open Go.RowKit

/-- The document's list holds what the wheel holds. -/
structure RelT (g : Nat → Option Nat) (L : List Tm) : Prop where
  srt : TSort L
  mem : ∀ m, m ∈ L ↔ 0 ≤ m.id ∧ g m.id.toNat = some m.at'
theorem RelT.start : RelT (fun _ => none) [] := ⟨List.Pairwise.nil, fun m => ⟨fun h => (by cases h), fun h => (by cases h.2)⟩⟩
theorem RelT.uniq {g : Nat → Option Nat} {L : List Tm} (h : RelT g L) : TUniq L := fun a ha b hb e => by
  have h1 := (h.mem a).1 ha
  have h2 := (h.mem b).1 hb
  rw [e] at h1
  have e2 : a.at' = b.at' := by
    have := h1.2.symm.trans h2.2
    simpa using this
  cases a; cases b; simp_all
theorem RelT.len {g : Nat → Option Nat} {L : List Tm} (h : RelT g L) (hg : ∀ i a, g i = some a → i < 1000) : L.length = cntT g := by
  have hn : (L.map Tm.id).Nodup := by
    rw [List.nodup_iff_pairwise_ne, List.pairwise_map]
    exact (List.nodup_iff_pairwise_ne.1 (tsort_nodup h.srt)).imp_of_mem fun {a b} ha hb hne e => hne (h.uniq a ha b hb e)
  have e := len_eq_of_mem hn (ints'_nodup (idsOf_nodup (fun i => (g i).isSome))) (fun x => by
    rw [List.mem_map, ints'_mem, idsOf_mem]
    constructor
    · rintro ⟨m, hm, rfl⟩
      obtain ⟨h1, h2⟩ := (h.mem m).1 hm
      exact ⟨h1, hg _ _ h2, by rw [h2]; rfl⟩
    · rintro ⟨h0, _, h2⟩
      obtain ⟨a, ha⟩ := Option.isSome_iff_exists.1 h2
      exact ⟨⟨x, a⟩, (h.mem _).2 ⟨h0, ha⟩, rfl⟩)
  rw [List.length_map] at e
  rw [e]
  simp [cntT, ints']
theorem cntT_le (g : Nat → Option Nat) : cntT g ≤ 1000 := idsOf_len _
theorem RelT.set {g : Nat → Option Nat} {L L' : List Tm} {x : Int} {t : Nat} (h : RelT g L) (hx : 0 ≤ x) (hs : SetR L L' x t) : RelT (updT g x.toNat (some t)) L' := by
  refine ⟨hs.1, fun m => ?_⟩
  rw [hs.2.1, h.mem]
  unfold updT
  by_cases e : m.id = x
  · constructor
    · rintro (rfl | h1)
      · exact ⟨hx, by rw [if_pos rfl]⟩
      · exact absurd e h1.2
    · rintro ⟨h1, h2⟩
      rw [e, if_pos rfl] at h2
      left
      cases m
      simp_all
  · have hne : ¬ m.id.toNat = x.toNat ∨ ¬ 0 ≤ m.id := by
      by_cases h0 : 0 ≤ m.id
      · left; omega
      · right; exact h0
    constructor
    · rintro (h1 | h1)
      · rw [h1] at e; exact absurd rfl e
      · refine ⟨h1.1.1, ?_⟩
        rw [if_neg (by omega)]; exact h1.1.2
    · rintro ⟨h1, h2⟩
      rw [if_neg (by omega)] at h2
      exact .inr ⟨⟨h1, h2⟩, e⟩
theorem RelT.can {g : Nat → Option Nat} {L L' : List Tm} {x c : Int} (h : RelT g L) (hs : CanR L L' x c) : RelT (canT g x) L' ∧ c = canC g x := by
  have hm : (∃ m ∈ L, m.id = x) ↔ (gI g x).isSome = true := by
    unfold gI
    constructor
    · rintro ⟨m, hm, rfl⟩
      obtain ⟨h1, h2⟩ := (h.mem m).1 hm
      rw [if_pos h1, h2]; rfl
    · intro hh
      by_cases h0 : 0 ≤ x
      · rw [if_pos h0] at hh
        obtain ⟨a, ha⟩ := Option.isSome_iff_exists.1 hh
        exact ⟨⟨x, a⟩, (h.mem _).2 ⟨h0, ha⟩, rfl⟩
      · rw [if_neg h0] at hh; cases hh
  refine ⟨⟨hs.1, fun m => ?_⟩, ?_⟩
  · rw [hs.2.1, h.mem]
    unfold canT
    by_cases h0 : 0 ≤ x
    · rw [if_pos h0]
      unfold updT
      constructor
      · rintro ⟨⟨h1, h2⟩, h3⟩
        exact ⟨h1, by rw [if_neg (by omega)]; exact h2⟩
      · rintro ⟨h1, h2⟩
        by_cases e : m.id.toNat = x.toNat
        · rw [if_pos e] at h2; cases h2
        · rw [if_neg e] at h2; exact ⟨⟨h1, h2⟩, fun h3 => e (by rw [h3])⟩
    · rw [if_neg h0]
      constructor
      · exact fun h1 => h1.1
      · intro h1; exact ⟨h1, fun e => h0 (e ▸ h1.1)⟩
  · unfold canC
    rcases hs.2.2.2 with ⟨rfl, h1⟩ | ⟨rfl, _, h1⟩
    · rw [if_pos (hm.1 h1)]
    · rw [if_neg (fun e => ?_)]
      obtain ⟨m, hm1, hm2⟩ := hm.2 e
      exact h1 m hm1 hm2
theorem RelT.at {g : Nat → Option Nat} {L : List Tm} {x c : Int} {t : Nat} (h : RelT g L) (hs : atV L x t c) : atTV g x = .tuple #[.int .u64 t, .int .i64 c] := by
  unfold atTV gI
  rcases hs with ⟨rfl, m, hm, rfl, rfl⟩ | ⟨rfl, rfl, hn⟩
  · obtain ⟨h1, h2⟩ := (h.mem m).1 hm
    rw [if_pos h1, h2]
  · by_cases h0 : 0 ≤ x
    · rw [if_pos h0]
      cases e : g x.toNat with
      | none => rfl
      | some a => exact absurd rfl (hn ⟨x, a⟩ ((h.mem _).2 ⟨h0, e⟩))
    · rw [if_neg h0]; rfl
theorem RelT.go {g : Nat → Option Nat} {L : List Tm} {t k : Nat} {out : List Nat} (h : RelT g L) (ho : GoT g t out) (h1 : ∀ j (hj : j < L.length), j < k → L[j].at' ≤ t) (h2 : ∀ hk : k < L.length, t < L[k].at') :
    (L.take k).map Tm.id = ints' out ∧ RelT (goneT g t) (L.drop k) := by
  have hle : ∀ m ∈ L.take k, m.at' ≤ t := fun m hm => by
    obtain ⟨i, hi, rfl⟩ := List.getElem_of_mem hm
    rw [List.length_take] at hi
    rw [List.getElem_take]
    exact h1 i (by omega) (by omega)
  have hgt : ∀ m ∈ L.drop k, t < m.at' := fun m hm => by
    obtain ⟨i, hi, rfl⟩ := List.getElem_of_mem hm
    rw [List.length_drop] at hi
    rw [List.getElem_drop]
    have hk : k < L.length := by omega
    have h3 := h2 hk
    by_cases e : i = 0
    · subst e; simpa using h3
    · have := tsort_idx h.srt hk (j := k + i) (by omega) (by omega)
      unfold Tm.lt at this
      omega
  have hL : ∀ m, m ∈ L ↔ m ∈ L.take k ∨ m ∈ L.drop k := fun m => by
    conv => lhs; rw [← List.take_append_drop k L]
    exact List.mem_append
  constructor
  · have e : L.take k = out.map (fun i : Nat => Tm.mk (i : Int) (tmT g i)) := by
      refine tsort_eq (h.srt.sublist (List.take_sublist _ _)) ?_ fun m => ?_
      · rw [TSort, List.pairwise_map]
        exact ho.1.imp fun {a b} hab => by unfold Tm.lt; simp only; omega
      · rw [List.mem_map]
        constructor
        · intro hm
          obtain ⟨e1, e2⟩ := (h.mem m).1 ((hL m).2 (.inl hm))
          refine ⟨m.id.toNat, (ho.2 _).2 ⟨_, e2, hle m hm⟩, ?_⟩
          have e3 : tmT g m.id.toNat = m.at' := by simp [tmT, e2]
          rw [e3]
          have e4 : ((m.id.toNat : Nat) : Int) = m.id := by omega
          rw [e4]
        · rintro ⟨i, hi, rfl⟩
          obtain ⟨a, e1, e2⟩ := (ho.2 i).1 hi
          have e3 : tmT g i = a := by simp [tmT, e1]
          have hm : (⟨(i : Int), tmT g i⟩ : Tm) ∈ L := (h.mem _).2 ⟨by simp, by simp [e1, e3]⟩
          rcases (hL _).1 hm with g1 | g1
          · exact g1
          · have := hgt _ g1
            simp only at this
            omega
    rw [e]
    simp [ints']
  · refine ⟨h.srt.sublist (List.drop_sublist _ _), fun m => ?_⟩
    rw [goneT_some]
    constructor
    · intro hm
      obtain ⟨e1, e2⟩ := (h.mem m).1 ((hL m).2 (.inr hm))
      exact ⟨e1, e2, hgt m hm⟩
    · rintro ⟨e1, e2, e3⟩
      rcases (hL m).1 ((h.mem m).2 ⟨e1, e2⟩) with g1 | g1
      · have := hle m g1; omega
      · exact g1

set_option maxHeartbeats 2000000 in
theorem rwset_bad (p : Nat) (L : List Tm) (now : Nat) (G : Nat → Prop) (id : Int) (a : Nat) (w : World) (h : RW w p L now G) (c : Int) (hc : setC now id a = c) (h0 : c ≠ 0) :
    Calls Try.prog 16 #[.pointer (some ⟨p, 0, none⟩), .int .i64 id, .int .u64 a] w fun e w' => e = .returned (.int .i64 c) ∧ w = w' := by
  obtain ⟨a0, c0, hb0, -⟩ := h.at'
  have hcn := cell_blk hb0 1
  simp only [List.getElem?_toArray, List.getElem?_cons_succ, List.getElem?_cons_zero] at hcn
  clear h hb0
  unfold setC at hc
  by_cases h1 : id < 0
  · rw [if_pos (.inl h1)] at hc
    subst hc
    clear h0
    go_enter Try.func16, Try.ntmps16
    go_wp2
    go_ret
    exact ⟨rfl, rfl⟩
  · by_cases h2 : 999 < id
    · rw [if_pos (.inr (.inl h2))] at hc
      subst hc
      clear h0
      go_enter Try.func16, Try.ntmps16
      go_wp2
      go_ret
      exact ⟨rfl, rfl⟩
    · by_cases h3 : a ≤ now
      · rw [if_pos (.inr (.inr h3))] at hc
        subst hc
        have h3i : (a : Int) ≤ (now : Int) := by omega
        clear h0
        go_enter Try.func16, Try.ntmps16
        go_wp2
        go_ret
        exact ⟨rfl, rfl⟩
      · rw [if_neg (by omega)] at hc
        by_cases h4 : 4611686018427387904 ≤ a
        · rw [if_pos h4] at hc
          subst hc
          have h3i : ¬ (a : Int) ≤ (now : Int) := by omega
          have eB : ((4611686018427387904 : Int) ≤ (a : Int)) = True := eq_true (by omega)
          clear h0 h4
          go_enter Try.func16, Try.ntmps16
          go_wp2
          go_ret
          exact ⟨rfl, rfl⟩
        · rw [if_neg h4] at hc
          exact absurd hc.symm h0
theorem rwset_any (p : Nat) (L : List Tm) (now : Nat) (G : Nat → Prop) (id : Int) (a : Nat) (w : World) (h : RW w p L now G) (hlen : L.length ≤ 1000000) (g : Nat → Option Nat) (hr : RelT g L) :
    Calls Try.prog 16 #[.pointer (some ⟨p, 0, none⟩), .int .i64 id, .int .u64 a] w fun e w' => e = .returned (.int .i64 (setC now id a)) ∧ ∃ L', RelT (setT now g id a) L' ∧ RWPost w p L' now G w' := by
  by_cases hc : setC now id a = 0
  · obtain ⟨h1, h2, h3, h4⟩ := setC_zero.1 hc
    refine (rwset_core p L now G id a w h hlen hr.srt hr.uniq h1 h2 h3 h4).mono fun e w' hx => ?_
    obtain ⟨e1, L', hs, hp⟩ := hx
    refine ⟨by rw [e1, hc], L', ?_, hp⟩
    unfold setT
    rw [if_pos hc]
    exact hr.set h1 hs
  · refine (rwset_bad p L now G id a w h _ rfl hc).mono fun e w' hx => ⟨hx.1, L, ?_, ?_⟩
    · unfold setT; rw [if_neg hc]; exact hr
    · rw [← hx.2]; exact ⟨G, h, Fr.refl _ _, Gro.refl _ _⟩
set_option maxHeartbeats 2000000 in
theorem rwgo_past (p : Nat) (L : List Tm) (now t : Nat) (G : Nat → Prop) (w : World) (h : RW w p L now G) (h1 : t < now) (h2 : now < 4611686018427387904) :
    Calls Try.prog 18 #[.pointer (some ⟨p, 0, none⟩), .int .u64 t] w fun e w' => e = .returned (.tuple #[.slice none 0 0, .int .i64 1]) ∧ w = w' := by
  obtain ⟨a0, c0, hb0, -⟩ := h.at'
  have hcn := cell_blk hb0 1
  simp only [List.getElem?_toArray, List.getElem?_cons_succ, List.getElem?_cons_zero] at hcn
  have hlt : (t : Int) < (now : Int) := by omega
  have eB : ((4611686018427387904 : Int) ≤ (t : Int)) = False := eq_false (by omega)
  clear h hb0
  go_enter Try.func18, Try.ntmps18
  go_wp2
  go_ret2
  exact ⟨rfl, rfl⟩
set_option maxHeartbeats 2000000 in
theorem rwgo_big (p t : Nat) (w : World) (h1 : 4611686018427387904 ≤ t) :
    Calls Try.prog 18 #[.pointer (some ⟨p, 0, none⟩), .int .u64 t] w fun e w' => e = .returned (.tuple #[.slice none 0 0, .int .i64 2]) ∧ w = w' := by
  have eB : ((4611686018427387904 : Int) ≤ (t : Int)) = True := eq_true (by omega)
  clear h1
  go_enter Try.func18, Try.ntmps18
  go_wp2
  go_ret2
  exact ⟨rfl, rfl⟩

end Go.Proofs.Ythlaebleaooeiaa
