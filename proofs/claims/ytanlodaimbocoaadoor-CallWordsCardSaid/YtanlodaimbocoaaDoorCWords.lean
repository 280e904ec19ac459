/-
  The law of words: no word has a blank, none is empty; lines one behind the other have the words of both.
-/
import Derived.Test.YtanlodaimbocoaaDoorStQ
import Derived.Test.YtanlodaimbocoaaDoorStR
import Derived.Test.YtanlodaimbocoaaDoorArgs
import Derived.Test.YtanlodaimbocoaaDoorTie
import Derived.Test.YtanlodaimbocoaaDoorCards
import Derived.SevenTiedAt
import Derived.ChangeMaps5
import Derived.Deep.RegionHeld3
namespace Go.Proofs.YtanlodaimbocoaaDoor.callWords
open Go Go.ChangeShapes Go.WideShapes Go.ChangeAt Go.RowKit Go.Proofs.YtanlodaimbocoaaDoor

theorem word_alone {X : Bs} (h1 : X ≠ []) (h2 : ∀ c ∈ X, blankB c = false) (hl : X.length ≤ 100000) (w : World) :
    Calls Tryd.prog 16 #[.string ⟨X.toArray⟩] w fun e w' => ∃ g c, e = .returned (.slice (some ⟨g, 0, none⟩) 1 c) ∧ w'.cell? ⟨g, 0, none⟩ = some (strv X) ∧ g < w'.heap.size ∧ Below w.heap.size w w' := by
  refine (words_any ⟨X.toArray⟩ (by rw [bts_size]; simp; omega) w).mono fun e w' h => ?_
  obtain ⟨v, rfl, ⟨a, c, rfl, ho⟩, hb⟩ := h
  have e0 : words (⟨X.toArray⟩ : ByteArray).data.toList = [X] := by
    show words (X.toArray.toList) = _
    rw [List.toList_toArray]
    exact words_one h1 h2
  rw [e0] at ho ⊢
  obtain ⟨b, off, e1, hbl, hc⟩ := VRow.own ho (by simp [strV])
  obtain ⟨g, e2⟩ := (own_bound ho).2.2 (by simp)
  rw [e1] at e2
  injection e2 with e2
  injection e2 with e3 e4
  subst e3; subst e4
  subst e1
  exact ⟨b, c, rfl, hc 0 (by simp [strV]), hbl, hb⟩
theorem words_three (a b : ByteArray) (h1 : a.size ≤ 500) (h2 : b.size ≤ 500) : ∃ (WX WY : List Bs) (N M K : Nat), Box (N = WX.length ∧ M = WY.length ∧ K = (WX ++ WY).length ∧ K = N + M ∧ N ≤ 500 ∧ M ≤ 500) ∧
    Box (∀ w, Calls Tryd.prog 16 #[.string a] w fun e w' => ∃ ao c, e = .returned (.slice ao N c) ∧ VRow w' ao (strV WX) ∧ Below w.heap.size w w') ∧
    Box (∀ w, Calls Tryd.prog 16 #[.string b] w fun e w' => ∃ ao c, e = .returned (.slice ao M c) ∧ VRow w' ao (strV WY) ∧ Below w.heap.size w w') ∧
    Box (∀ w, Calls Tryd.prog 16 #[.string (a ++ ⟨#[13]⟩ ++ b)] w fun e w' => ∃ ao c, e = .returned (.slice ao K c) ∧ VRow w' ao (strV (WX ++ WY)) ∧ Below w.heap.size w w') ∧
    Box (∀ X ∈ WX, X ≠ [] ∧ (∀ c ∈ X, blankB c = false) ∧ X.length ≤ 100000) := by
  have hN := words_len a.data.toList
  have hM := words_len b.data.toList
  rw [← bts_size] at hN hM
  have e : words (a ++ ⟨#[13]⟩ ++ b).data.toList = words a.data.toList ++ words b.data.toList := by
    have : (a ++ ⟨#[13]⟩ ++ b).data.toList = a.data.toList ++ 13 :: b.data.toList := by simp [ByteArray.data_append]
    rw [this]
    exact words_join (by decide) _ _
  refine ⟨words a.data.toList, words b.data.toList, _, _, _, ⟨rfl, rfl, rfl, by simp, by omega, by omega⟩, ⟨words_u a (by omega)⟩, ⟨words_u b (by omega)⟩, ⟨fun w => ?_⟩, ⟨fun X hX => ?_⟩⟩
  · rw [← e]
    exact words_u _ (by simp only [ByteArray.size_append]; show a.size + 1 + b.size ≤ _; omega) w
  · obtain ⟨q1, q2, q3⟩ := words_mem hX
    rw [← bts_size] at q3
    exact ⟨q1, q2, by omega⟩
theorem src_of_row {w : World} {ao : Option Addr} {V : List Value} {n : Nat} (h : VRow w ao V) (hn : n = V.length) : SrcAt w ao n V := by
  by_cases h0 : 0 < V.length
  · obtain ⟨b, off, rfl, hb, hc⟩ := h h0
    refine .inr ⟨_, rfl, fun j u hu => ?_⟩
    obtain ⟨hj, e⟩ := List.getElem?_eq_some_iff.1 hu
    rw [← e]
    have hcj := hc j hj
    unfold Addr.add
    split
    · rename_i h0
      have h0 : j = 0 := by simpa using h0
      subst h0
      exact ⟨hb, hcj⟩
    · exact ⟨hb, hcj⟩
  · obtain rfl : V = [] := by cases V with | nil => rfl | cons x r => simp at h0
    cases ao with
    | none => exact .inl ⟨rfl, hn, rfl⟩
    | some ad => exact .inr ⟨ad, rfl, fun j u hu => by simp at hu⟩
theorem below_step {w u v : World} (h : Below w.heap.size w u) (hb : Below u.heap.size u v) : Below w.heap.size w v := h.trans (hb.mono h.size)
theorem below_drew {n : Nat} {a b : World} : Below n a b.drew ↔ Below n a b := ⟨fun h => ⟨h.os, h.tape, h.output, h.size, h.block⟩, fun h => ⟨h.os, h.tape, h.output, h.size, h.block⟩⟩
theorem own_empty (w : World) (T : TypeId) : (w.alloc (.cells #[] T)).ownsRow w.heap.size T 1 (.slice (some ⟨w.heap.size, 0, none⟩) 0 0) 0 [] :=
  ⟨by simp, .inr ⟨w.heap.size, 0, #[], rfl, Nat.le_refl _, heap_alloc_new w _, Nat.le_refl _, Nat.zero_le _, by simp, by simp⟩⟩

set_option maxHeartbeats 16000000 in
set_option maxRecDepth 100000 in
theorem walk (s x : ByteArray) (W : World) (w0 : s.size ≤ maxLen) (w1 : x.size ≤ maxLen) (ht : Tab W) : Calls Tryd.prog 5 #[.string s, .string x] W fun e w' => e = .returned (.bool true) ∧ Below W.heap.size W w' := by
  have HA := Box.mk (awake21_any W ht)
  clear w0 w1 ht
  by_cases h1 : 500 < s.size
  · go_enter Tryd.func5, Tryd.ntmps5
    go_wp2_with (go_at_call 8; (with_reducible refine HA.out.mono ?_); rintro e w1 ⟨rfl, hb⟩; have HB := Box.mk hb; clear hb)
    go_ret
    exact ⟨rfl, HB.out⟩
  by_cases h2 : 500 < x.size
  · go_enter Tryd.func5, Tryd.ntmps5
    go_wp2_with (go_at_call 8; (with_reducible refine HA.out.mono ?_); rintro e w1 ⟨rfl, hb⟩; have HB := Box.mk hb; clear hb)
    go_ret
    exact ⟨rfl, HB.out⟩
  obtain ⟨WX, WY, N, M, K, HL, HX, HY, HZ, HF⟩ := words_three s x (by omega) (by omega)
  have hs1 : (s ++ ⟨#[13]⟩ : ByteArray).size ≤ 1000 := by simp only [ByteArray.size_append]; show s.size + 1 ≤ _; omega
  have hs2 : (s ++ ⟨#[13]⟩ ++ x : ByteArray).size ≤ 2000 := by simp only [ByteArray.size_append]; show s.size + 1 + x.size ≤ _; omega
  obtain ⟨i0, hi0, hz0, hz1, hz2⟩ := info_parts Tryd.infoStr
  have hN5 := HL.out.2.2.2.2.1
  have hM5 := HL.out.2.2.2.2.2
  have hKN := Box.mk HL.out.2.2.2.1
  have HK1 : Box (K ≤ 1000000) := ⟨by have := HL.out; omega⟩
  go_enter Tryd.func5, Tryd.ntmps5
  go_upto_region 8 with (first
    | (go_at_call 8; (with_reducible refine HA.out.mono ?_); rintro e w1 ⟨rfl, hb⟩; have HB1 := Box.mk hb; clear hb)
    | (go_at_call 16; (with_reducible refine (HX.out _).mono ?_); rintro e w2 ⟨xa, xc, rfl, hv, hb⟩; have HB2 := Box.mk (HB1.out.trans (hb.mono HB1.out.size)); have HV2 := Box.mk hv; clear hb hv)
    | (go_at_call 16; (with_reducible refine (HY.out _).mono ?_); rintro e w3 ⟨ya, yc, rfl, hv, hb⟩; have HB3 := Box.mk (HB2.out.trans (hb.mono HB2.out.size)); have HV3 := Box.mk (And.intro (HV2.out.later hb) hv); clear hb hv)
    | (go_at_call 16; (with_reducible refine (HZ.out _).mono ?_); rintro e w4 ⟨za, zc, rfl, hv, hb⟩; have HB4 := Box.mk (HB3.out.trans (hb.mono HB3.out.size)); have HV4 := Box.mk (And.intro (HV3.out.1.later hb) (And.intro (HV3.out.2.later hb) hv)); clear hb hv))
  clear HA HX HY HZ HB1 HB2 HB3 HV2 HV3 hs1 hs2
  go_upto_block 0 with fail
  go_wp2
  go_loopw [8] (fun s8 wr => ∃ i : Nat, i ≤ N ∧ s8 = .int .i64 i ∧ Box (Below w4.heap.size w4 wr)) (fun s8 _ => N - (intOf s8).toNat)
  case atStart => exact ⟨0, by omega, rfl, ⟨Below.refl _ _⟩⟩
  case round =>
    obtain ⟨i, hi, rfl, HB⟩ := hrel
    by_cases hiN : i < N
    · have hil : i < WX.length := by rw [← HL.out.1]; exact hiN
      obtain ⟨b, off, hxa, hbl, hc⟩ := HV4.out.1 (by simp [strV]; omega)
      have hci := hc i (by simpa [strV] using hil)
      subst hxa
      have HXF := HF.out WX[i] (List.getElem_mem hil)
      have hci : w4.cell? ⟨b, off + i, none⟩ = some (strv WX[i]) := by rw [hci]; simp [strV]
      have HCI : Box (∀ w', Below w4.heap.size w4 w' → w'.cell? ⟨b, off + i, none⟩ = some (strv WX[i])) := ⟨fun w' hb => (hb.cell (p := ⟨b, off + i, none⟩) hbl).trans hci⟩
      have HWA := Box.mk (fun w => word_alone HXF.1 HXF.2.1 HXF.2.2 w)
      have hne := HXF.1
      clear hc hci HXF
      generalize WX[i] = X at HCI HWA hne
      have hne2 : (X == []) = false := by cases X with | nil => exact absurd rfl hne | cons _ _ => rfl
      have hxx : (X != X) = false := by simp
      have hki : (i : Int) < N := by omega
      have hk0 : (0 : Int) ≤ i := by omega
      clear hne
      go_upto_region 11 with fail
      have hbr := HB.out
      have hbd := hbr.drew
      have e0 := HCI.out wr hbr
      clear hbl
      refine wp_region_held_drew (S := fun w' => w'.cell? ⟨b, off + i, none⟩ = some (strv X) ∧ Below w4.heap.size w4 w') (by kernel_rfl) ?_ (fun hHeld => ?_)
      · simp [*, below_drew]
      refine wpAnyH_take (i := 0) (v := ?v0) rfl (by kernel_rfl) (by kernel_rfl) (by kernel_rfl) (fun _ _ _ h => h) (Or.inl ⟨by rfl, ?y0⟩) (by assumption) ?r0
      case y0 =>
        intro w hSw; (try dsimp only at hSw); (try simp only [List.getElem_toArray, List.getElem_cons_succ, List.getElem_cons_zero]); go_simp
        all_goals (with_reducible rfl)
      try simp only [Act.put, List.setIfInBounds_toArray, List.set_cons_zero, List.set_cons_succ, List.getElem_toArray, List.getElem_cons_succ, List.getElem_cons_zero]
      refine wpAnyH_take (i := 1) (v := ?v1) rfl (by kernel_rfl) (by kernel_rfl) (by kernel_rfl) (fun _ _ _ h => h) (Or.inl ⟨by rfl, ?y1⟩) (by assumption) ?r1
      case y1 =>
        intro w hSw; (try dsimp only at hSw); (try simp only [List.getElem_toArray, List.getElem_cons_succ, List.getElem_cons_zero]); go_simp
        all_goals (with_reducible rfl)
      try simp only [Act.put, List.setIfInBounds_toArray, List.set_cons_zero, List.set_cons_succ, List.getElem_toArray, List.getElem_cons_succ, List.getElem_cons_zero]
      refine wpAnyH_take (i := 2) (v := ?v2) rfl (by kernel_rfl) (by kernel_rfl) (by kernel_rfl) (fun _ _ _ h => h) (Or.inl ⟨by rfl, ?y2⟩) (by assumption) ?r2
      case y2 =>
        intro w hSw; (try dsimp only at hSw); (try simp only [List.getElem_toArray, List.getElem_cons_succ, List.getElem_cons_zero]); go_simp
        all_goals (with_reducible rfl)
      try simp only [Act.put, List.setIfInBounds_toArray, List.set_cons_zero, List.set_cons_succ, List.getElem_toArray, List.getElem_cons_succ, List.getElem_cons_zero]
      refine wpAnyH_take (i := 3) (v := ?v3) rfl (by kernel_rfl) (by kernel_rfl) (by kernel_rfl) (fun _ _ _ h => h) (Or.inl ⟨by rfl, ?y3⟩) (by assumption) ?r3
      case y3 =>
        intro w hSw; (try dsimp only at hSw); (try simp only [List.getElem_toArray, List.getElem_cons_succ, List.getElem_cons_zero]); go_simp
        all_goals (with_reducible rfl)
      try simp only [Act.put, List.setIfInBounds_toArray, List.set_cons_zero, List.set_cons_succ, List.getElem_toArray, List.getElem_cons_succ, List.getElem_cons_zero]
      refine wpAnyH_take (i := 4) (v := ?v4) rfl (by kernel_rfl) (by kernel_rfl) (by kernel_rfl) (fun _ _ _ h => h) (Or.inl ⟨by rfl, ?y4⟩) (by assumption) ?r4
      case y4 =>
        intro w hSw; (try dsimp only at hSw); (try simp only [List.getElem_toArray, List.getElem_cons_succ, List.getElem_cons_zero]); go_simp
        all_goals (with_reducible rfl)
      try simp only [Act.put, List.setIfInBounds_toArray, List.set_cons_zero, List.set_cons_succ, List.getElem_toArray, List.getElem_cons_succ, List.getElem_cons_zero]
      refine wpAnyH_take (i := 5) (v := ?v5) rfl (by kernel_rfl) (by kernel_rfl) (by kernel_rfl) (fun _ _ _ h => h) (Or.inl ⟨by rfl, ?y5⟩) (by assumption) ?r5
      case y5 =>
        intro w hSw; (try dsimp only at hSw); (try simp only [List.getElem_toArray, List.getElem_cons_succ, List.getElem_cons_zero]); go_simp
        all_goals (with_reducible rfl)
      try simp only [Act.put, List.setIfInBounds_toArray, List.set_cons_zero, List.set_cons_succ, List.getElem_toArray, List.getElem_cons_succ, List.getElem_cons_zero]
      refine wpAnyH_take (i := 6) (v := ?v6) rfl (by kernel_rfl) (by kernel_rfl) (by kernel_rfl) (fun _ _ _ h => h) (Or.inl ⟨by rfl, ?y6⟩) (by assumption) ?r6
      case y6 =>
        intro w hSw; (try dsimp only at hSw); (try simp only [List.getElem_toArray, List.getElem_cons_succ, List.getElem_cons_zero]); go_simp
        all_goals (with_reducible rfl)
      try simp only [Act.put, List.setIfInBounds_toArray, List.set_cons_zero, List.set_cons_succ, List.getElem_toArray, List.getElem_cons_succ, List.getElem_cons_zero]
      refine wpAnyH_take (i := 7) (v := ?v7) rfl (by kernel_rfl) (by kernel_rfl) (by kernel_rfl) (fun _ _ _ h => h) (Or.inl ⟨by rfl, ?y7⟩) (by assumption) ?r7
      case y7 =>
        intro w hSw; (try dsimp only at hSw); (try simp only [List.getElem_toArray, List.getElem_cons_succ, List.getElem_cons_zero]); go_simp
        all_goals (with_reducible rfl)
      try simp only [Act.put, List.setIfInBounds_toArray, List.set_cons_zero, List.set_cons_succ, List.getElem_toArray, List.getElem_cons_succ, List.getElem_cons_zero]
      refine wpAnyH_take (i := 8) (v := ?v8) rfl (by kernel_rfl) (by kernel_rfl) (by kernel_rfl) (fun _ _ _ h => h) (Or.inl ⟨by rfl, ?y8⟩) (by assumption) ?r8
      case y8 =>
        intro w hSw; (try dsimp only at hSw); (try simp only [List.getElem_toArray, List.getElem_cons_succ, List.getElem_cons_zero]); go_simp
        all_goals (with_reducible rfl)
      try simp only [Act.put, List.setIfInBounds_toArray, List.set_cons_zero, List.set_cons_succ, List.getElem_toArray, List.getElem_cons_succ, List.getElem_cons_zero]
      refine wpAnyH_take (i := 9) (v := ?v9) rfl (by kernel_rfl) (by kernel_rfl) (by kernel_rfl) (fun _ _ _ h => h) (Or.inl ⟨by rfl, ?y9⟩) (by assumption) ?r9
      case y9 =>
        intro w hSw; (try dsimp only at hSw); (try simp only [List.getElem_toArray, List.getElem_cons_succ, List.getElem_cons_zero]); go_simp
        all_goals (with_reducible rfl)
      try simp only [Act.put, List.setIfInBounds_toArray, List.set_cons_zero, List.set_cons_succ, List.getElem_toArray, List.getElem_cons_succ, List.getElem_cons_zero]
      refine wpAnyH_ready (rs := [10]) (by kernel_rfl) (by simp) ?_
      refine AllReadyH.cons rfl (fun K hK => ?_) AllReadyH.nil
      try simp only [List.getElem_toArray, List.getElem_cons_succ, List.getElem_cons_zero]
      go_simp
      (go_at_call 16; (with_reducible refine (HWA.out _).mono ?_); rintro e w5 ⟨g, gc, rfl, hg, hgl, hb⟩; have hb7 := below_step (w := w4) (by first | assumption | exact hbr.drew) hb; have e1 := HCI.out w5 hb7)
      refine hK.out _ _ (by simp [*, below_drew]) (fun hHeld => ?_)
      clear hK K
      try simp only [Act.put, List.setIfInBounds_toArray, List.set_cons_zero, List.set_cons_succ]
      refine wpAnyH_take (i := 11) (v := ?v11) rfl (by kernel_rfl) (by kernel_rfl) (by kernel_rfl) (fun _ _ _ h => h) (Or.inl ⟨by rfl, ?y11⟩) (by assumption) ?r11
      case y11 =>
        intro w hSw; (try dsimp only at hSw); (try simp only [List.getElem_toArray, List.getElem_cons_succ, List.getElem_cons_zero]); go_simp
        all_goals (with_reducible rfl)
      try simp only [Act.put, List.setIfInBounds_toArray, List.set_cons_zero, List.set_cons_succ, List.getElem_toArray, List.getElem_cons_succ, List.getElem_cons_zero]
      refine wpAnyH_take (i := 12) (v := ?v12) rfl (by kernel_rfl) (by kernel_rfl) (by kernel_rfl) (fun _ _ _ h => h) (Or.inl ⟨by rfl, ?y12⟩) (by assumption) ?r12
      case y12 =>
        intro w hSw; (try dsimp only at hSw); (try simp only [List.getElem_toArray, List.getElem_cons_succ, List.getElem_cons_zero]); go_simp
        all_goals (with_reducible rfl)
      try simp only [Act.put, List.setIfInBounds_toArray, List.set_cons_zero, List.set_cons_succ, List.getElem_toArray, List.getElem_cons_succ, List.getElem_cons_zero]
      refine wpAnyH_take (i := 13) (v := ?v13) rfl (by kernel_rfl) (by kernel_rfl) (by kernel_rfl) (fun _ _ _ h => h) (Or.inl ⟨by rfl, ?y13⟩) (by assumption) ?r13
      case y13 =>
        intro w hSw; (try dsimp only at hSw); (try simp only [List.getElem_toArray, List.getElem_cons_succ, List.getElem_cons_zero]); go_simp
        all_goals (with_reducible rfl)
      try simp only [Act.put, List.setIfInBounds_toArray, List.set_cons_zero, List.set_cons_succ, List.getElem_toArray, List.getElem_cons_succ, List.getElem_cons_zero]
      refine wpAnyH_take (i := 14) (v := ?v14) rfl (by kernel_rfl) (by kernel_rfl) (by kernel_rfl) (fun _ _ _ h => h) (Or.inl ⟨by rfl, ?y14⟩) (by assumption) ?r14
      case y14 =>
        intro w hSw; (try dsimp only at hSw); (try simp only [List.getElem_toArray, List.getElem_cons_succ, List.getElem_cons_zero]); go_simp
        all_goals (with_reducible rfl)
      try simp only [Act.put, List.setIfInBounds_toArray, List.set_cons_zero, List.set_cons_succ, List.getElem_toArray, List.getElem_cons_succ, List.getElem_cons_zero]
      refine wpAnyH_take (i := 15) (v := ?v15) rfl (by kernel_rfl) (by kernel_rfl) (by kernel_rfl) (fun _ _ _ h => h) (Or.inl ⟨by rfl, ?y15⟩) (by assumption) ?r15
      case y15 =>
        intro w hSw; (try dsimp only at hSw); (try simp only [List.getElem_toArray, List.getElem_cons_succ, List.getElem_cons_zero]); go_simp
        all_goals (with_reducible rfl)
      try simp only [Act.put, List.setIfInBounds_toArray, List.set_cons_zero, List.set_cons_succ, List.getElem_toArray, List.getElem_cons_succ, List.getElem_cons_zero]
      refine wpAnyH_take (i := 16) (v := ?v16) rfl (by kernel_rfl) (by kernel_rfl) (by kernel_rfl) (fun _ _ _ h => h) (Or.inl ⟨by rfl, ?y16⟩) (by assumption) ?r16
      case y16 =>
        intro w hSw; (try dsimp only at hSw); (try simp only [List.getElem_toArray, List.getElem_cons_succ, List.getElem_cons_zero]); go_simp
        all_goals (with_reducible rfl)
      try simp only [Act.put, List.setIfInBounds_toArray, List.set_cons_zero, List.set_cons_succ, List.getElem_toArray, List.getElem_cons_succ, List.getElem_cons_zero]
      refine wpAnyH_take (i := 17) (v := ?v17) rfl (by kernel_rfl) (by kernel_rfl) (by kernel_rfl) (fun _ _ _ h => h) (Or.inl ⟨by rfl, ?y17⟩) (by assumption) ?r17
      case y17 =>
        intro w hSw; (try dsimp only at hSw); (try simp only [List.getElem_toArray, List.getElem_cons_succ, List.getElem_cons_zero]); go_simp
        all_goals (with_reducible rfl)
      try simp only [Act.put, List.setIfInBounds_toArray, List.set_cons_zero, List.set_cons_succ, List.getElem_toArray, List.getElem_cons_succ, List.getElem_cons_zero]
      refine wpAnyH_take (i := 18) (v := ?v18) rfl (by kernel_rfl) (by kernel_rfl) (by kernel_rfl) (fun _ _ _ h => h) (Or.inl ⟨by rfl, ?y18⟩) (by assumption) ?r18
      case y18 =>
        intro w hSw; (try dsimp only at hSw); (try simp only [List.getElem_toArray, List.getElem_cons_succ, List.getElem_cons_zero]); go_simp
        all_goals (with_reducible rfl)
      try simp only [Act.put, List.setIfInBounds_toArray, List.set_cons_zero, List.set_cons_succ, List.getElem_toArray, List.getElem_cons_succ, List.getElem_cons_zero]
      refine wpAnyH_take (i := 22) (v := ?v22) rfl (by kernel_rfl) (by kernel_rfl) (by kernel_rfl) (fun _ _ _ h => h) (Or.inl ⟨by rfl, ?y22⟩) (by assumption) ?r22
      case y22 =>
        intro w hSw; (try dsimp only at hSw); (try simp only [List.getElem_toArray, List.getElem_cons_succ, List.getElem_cons_zero]); go_simp
        all_goals (with_reducible rfl)
      try simp only [Act.put, List.setIfInBounds_toArray, List.set_cons_zero, List.set_cons_succ, List.getElem_toArray, List.getElem_cons_succ, List.getElem_cons_zero]
      refine wpAnyH_take (i := 23) (v := ?v23) rfl (by kernel_rfl) (by kernel_rfl) (by kernel_rfl) (fun _ _ _ h => h) (Or.inl ⟨by rfl, ?y23⟩) (by assumption) ?r23
      case y23 =>
        intro w hSw; (try dsimp only at hSw); (try simp only [List.getElem_toArray, List.getElem_cons_succ, List.getElem_cons_zero]); go_simp
        all_goals (with_reducible rfl)
      try simp only [Act.put, List.setIfInBounds_toArray, List.set_cons_zero, List.set_cons_succ, List.getElem_toArray, List.getElem_cons_succ, List.getElem_cons_zero]
      refine wpAnyH_take (i := 24) (v := ?v24) rfl (by kernel_rfl) (by kernel_rfl) (by kernel_rfl) (fun _ _ _ h => h) (Or.inl ⟨by rfl, ?y24⟩) (by assumption) ?r24
      case y24 =>
        intro w hSw; (try dsimp only at hSw); (try simp only [List.getElem_toArray, List.getElem_cons_succ, List.getElem_cons_zero]); go_simp
        all_goals (with_reducible rfl)
      try simp only [Act.put, List.setIfInBounds_toArray, List.set_cons_zero, List.set_cons_succ, List.getElem_toArray, List.getElem_cons_succ, List.getElem_cons_zero]
      refine wpAnyH_take (i := 25) (v := ?v25) rfl (by kernel_rfl) (by kernel_rfl) (by kernel_rfl) (fun _ _ _ h => h) (Or.inl ⟨by rfl, ?y25⟩) (by assumption) ?r25
      case y25 =>
        intro w hSw; (try dsimp only at hSw); (try simp only [List.getElem_toArray, List.getElem_cons_succ, List.getElem_cons_zero]); go_simp
        all_goals (with_reducible rfl)
      try simp only [Act.put, List.setIfInBounds_toArray, List.set_cons_zero, List.set_cons_succ, List.getElem_toArray, List.getElem_cons_succ, List.getElem_cons_zero]
      refine wpAnyH_ready (rs := [19]) (by kernel_rfl) (by simp) ?_
      refine AllReadyH.cons rfl (fun K hK => ?_) AllReadyH.nil
      try simp only [List.getElem_toArray, List.getElem_cons_succ, List.getElem_cons_zero]
      go_simp
      (go_at_call 16; (with_reducible refine (HWA.out _).mono ?_); rintro e w5 ⟨g, gc, rfl, hg, hgl, hb⟩; have hb7 := below_step (w := w4) (by first | assumption | exact hbr.drew) hb; have e1 := HCI.out w5 hb7)
      refine hK.out _ _ (by simp [*, below_drew]) (fun hHeld => ?_)
      clear hK K
      try simp only [Act.put, List.setIfInBounds_toArray, List.set_cons_zero, List.set_cons_succ]
      refine wpAnyH_take (i := 20) (v := ?v20) rfl (by kernel_rfl) (by kernel_rfl) (by kernel_rfl) (fun _ _ _ h => h) (Or.inl ⟨by rfl, ?y20⟩) (by assumption) ?r20
      case y20 =>
        intro w hSw; (try dsimp only at hSw); (try simp only [List.getElem_toArray, List.getElem_cons_succ, List.getElem_cons_zero]); go_simp
        all_goals (with_reducible rfl)
      try simp only [Act.put, List.setIfInBounds_toArray, List.set_cons_zero, List.set_cons_succ, List.getElem_toArray, List.getElem_cons_succ, List.getElem_cons_zero]
      refine wpAnyH_ready (rs := [21]) (by kernel_rfl) (by simp) ?_
      refine AllReadyH.cons rfl (fun K hK => ?_) AllReadyH.nil
      try simp only [List.getElem_toArray, List.getElem_cons_succ, List.getElem_cons_zero]
      go_simp
      refine hK.out _ _ (by simp [*, below_drew]) (fun hHeld => ?_)
      clear hK K
      try simp only [Act.put, List.setIfInBounds_toArray, List.set_cons_zero, List.set_cons_succ]
      refine wpAnyH_take (i := 26) (v := ?v26) rfl (by kernel_rfl) (by kernel_rfl) (by kernel_rfl) (fun _ _ _ h => h) (Or.inl ⟨by rfl, ?y26⟩) (by assumption) ?r26
      case y26 =>
        intro w hSw; (try dsimp only at hSw); (try simp only [List.getElem_toArray, List.getElem_cons_succ, List.getElem_cons_zero]); go_simp
        all_goals (with_reducible rfl)
      try simp only [Act.put, List.setIfInBounds_toArray, List.set_cons_zero, List.set_cons_succ, List.getElem_toArray, List.getElem_cons_succ, List.getElem_cons_zero]
      refine wpAnyH_take (i := 27) (v := ?v27) rfl (by kernel_rfl) (by kernel_rfl) (by kernel_rfl) (fun _ _ _ h => h) (Or.inl ⟨by rfl, ?y27⟩) (by assumption) ?r27
      case y27 =>
        intro w hSw; (try dsimp only at hSw); (try simp only [List.getElem_toArray, List.getElem_cons_succ, List.getElem_cons_zero]); go_simp
        all_goals (with_reducible rfl)
      try simp only [Act.put, List.setIfInBounds_toArray, List.set_cons_zero, List.set_cons_succ, List.getElem_toArray, List.getElem_cons_succ, List.getElem_cons_zero]
      refine wpAnyH_done (by kernel_rfl) ?_ _
      go_wp2
      go_roundw
      case rel => exact ⟨i + 1, by omega, by go_num, ⟨by assumption⟩⟩
      case measure => simp [intOf] <;> omega
    · obtain rfl : N = i := by omega
      have hNN : ¬ N < N := by omega
      go_upto_region 13 with fail
      have HO := Box.mk (own_empty wr 9)
      have HBE : Box (Below wr.heap.size wr (wr.alloc (.cells #[] 9))) := ⟨(Below.refl _ _).alloc (Nat.le_refl _) _⟩
      have HS1 := Box.mk (src_of_row (n := N) ((HV4.out.1.later HB.out).later HBE.out) (by simp [strV]; exact HL.out.1))
      have HE1 : Box ((strV WX).length = N * 1) := ⟨by simp [strV]; exact HL.out.1.symm⟩
      have HE2 : Box ((strV WY).length = M * 1) := ⟨by simp [strV]; exact HL.out.2.1.symm⟩
      have hO1 : ∀ u ∈ strV WX, u.oneCell' = true := by intro u hu; simp [strV] at hu; obtain ⟨_, _, rfl⟩ := hu; rfl
      have hO2 : ∀ u ∈ strV WY, u.oneCell' = true := by intro u hu; simp [strV] at hu; obtain ⟨_, _, rfl⟩ := hu; rfl
      have HO1 := Box.mk hO1
      have HO2 := Box.mk hO2
      clear hO1 hO2
      go_wp2_with (at_builtin; refine wpList_append_rowg rfl (.tmp 63) (.tmp 64) 32 rfl wr.heap.size 9 i0 (.string ByteArray.empty) 1 16 Tryd.underlying32 hi0 hz0 hz1 hz2 rfl (by decide) (.slice (some ⟨wr.heap.size, 0, none⟩) 0 0) 0 [] rfl HO.out xa N xc (strV WX) rfl HE1.out HS1.out HO1.out ?b1 ?b2 HBE.out.size N (by omega) _ rfl ?next)
      case b1 => unfold maxLen; omega
      case b2 => omega
      case next =>
        intro ao1 c1 w5 ho5 hg5 hat5
        have HM := Box.mk (Mid.of (W := wr) (xs := strV WX) (by simpa using ho5) HBE.out hg5 (fun k e => by simp [Value.ownBlock] at e; omega))
        have HS2 := Box.mk (src_of_row (n := M) ((HV4.out.2.1.later HB.out).later HM.out.bel) (by simp [strV]; exact HL.out.2.1))
        clear ho5 hg5 hat5 HO HBE HS1
        go_wp2_with (at_builtin; refine wpList_append_rowg rfl (.tmp 65) (.tmp 66) 32 rfl wr.heap.size 9 i0 (.string ByteArray.empty) 1 16 Tryd.underlying32 hi0 hz0 hz1 hz2 rfl (by decide) (.slice ao1 N c1) N (strV WX) rfl HM.out.own ya M yc (strV WY) rfl HE2.out HS2.out HO2.out ?b1 ?b2 HM.out.bel.size K hKN.out.symm _ rfl ?next)
        case b1 => unfold maxLen; omega
        case b2 => omega
        case next =>
          intro ao2 c2 w6 ho6 hg6 hat6
          have HM2 := Box.mk (HM.out.again (ys := strV WX ++ strV WY) rfl ho6 hg6)
          have HR2 : Box (VRow w6 ao2 (strV (WX ++ WY))) := ⟨VRow.own (by rw [show strV (WX ++ WY) = strV WX ++ strV WY from by simp [strV]]; exact HM2.out.own)⟩
          have HR1 : Box (VRow w6 za (strV (WX ++ WY))) := ⟨(HV4.out.2.2.later HB.out).later HM2.out.bel⟩
          have HBW : Box (Below W.heap.size W w6) := ⟨HB4.out.trans ((HB.out.trans (HM2.out.bel.mono HB.out.size)).mono HB4.out.size)⟩
          clear ho6 hg6 hat6
          go_wp2_with (go_at_call 15; (with_reducible refine (texts_any _ _ _ _ _ _ (WX ++ WY) _ HL.out.2.2.1 rfl HR1.out HR2.out HK1.out).mono ?_); rintro e w7 ⟨rfl, hb⟩; have HB7 := Box.mk hb; clear hb)
          go_ret
          exact ⟨rfl, HBW.out.trans (HB7.out.mono HBW.out.size)⟩

/-! The row's step. -/
theorem own : ownKnob Tryd.prog.godebug = none := by kernel_rfl
theorem laidOut : laidOutB Tryd.prog = true := by kernel_rfl

set_option maxRecDepth 100000 in
theorem lifted (os : Os) (started : os.Started) (H : Type) (enc : TypeId × Value → H) :
    ReturnsInHanded {} Tryd.checked os 5 .any (fun w args => (Rows.callWordsSpec.pre enc Tryd.prog Tryd.f5 [] false w args ∧ laidMetH Tryd.prog laids w) ∧ sizedMet enc Tryd.prog Tryd.f5 (OpenSpec.ofChange Rows.callWordsSpec) false w args) (Rows.callWordsSpec.post enc Tryd.prog Tryd.f5 false true false false) := by
  refine returnsInHanded_of_change_and (C := Tryd.checked) (X := fun w _ => laidMetH Tryd.prog laids w) (fun _ _ _ hh h => h.of_heap hh) own started (by kernel_rfl) Tryd.func5
    (ChangeSpec.witness_at (enc := enc) (C := Tryd.checked) (os := os) (X := fun w _ => laidMetH Tryd.prog laids w) false (laidWorld os) #[.string ⟨#[]⟩, .string ⟨#[]⟩] 8 rfl (by kernel_rfl) (by kernel_rfl) (by kernel_rfl) (by kernel_rfl) (by kernel_rfl) (laidWorld_met os _)) ?_
  intro W base args ds gs before hval0 hW hcnd _ hL _
  have hval : ∀ (j : Nat) t v, Tryd.f5.params[j]? = some t → args[j]? = some v → Value.okWide Tryd.prog W .any base t v := hval0
  have hW' := hW
  obtain ⟨p, q, hA0, hV, rfl, hfz, hnd⟩ := hW
  have hA : DataW.TrodAll enc Tryd.prog W 0 (fun _ => true) true Tryd.f5.params.toList args.toList ds p := hA0
  rw [Tryd.params5] at hA hval
  obtain ⟨v0, vs0, d0, ds0, p0, q0, hargs, rfl, rfl, h0, r0⟩ := trodAll_cons hA
  obtain ⟨v1, vs1, d1, ds1, p1, q1, rfl, rfl, rfl, h1, r1⟩ := trodAll_cons r0
  obtain ⟨rfl, rfl, rfl⟩ := trodAll_nil r1
  obtain rfl : args = #[v0, v1] := by cases args; simp_all
  obtain ⟨rfl, rfl⟩ := trodVars_none hV
  obtain ⟨x0, rfl, rfl, rfl, w0⟩ := Go.ChangeMaps.open_string Tryd.underlying9 (hval 0 9 v0 rfl rfl) h0
  obtain ⟨x1, rfl, rfl, rfl, w1⟩ := Go.ChangeMaps.open_string Tryd.underlying9 (hval 1 9 v1 rfl rfl) h1
  clear hA0 hval0
  refine (walk x0 x1 W w0 w1 (tab_of_laids hL)).mono fun e W' ⟨he, bel⟩ => ?_
  subst he
  exact ⟨_, rfl, _, _, _, [], _, [], hW', trodAll_mk1 (shut_bool Tryd.underlying4 _), (trodAll_cons_mk (Go.ChangeMaps.shut_string Tryd.underlying9 w0) (trodAll_cons_mk (Go.ChangeMaps.shut_string Tryd.underlying9 w1) trodAll_mk0)), rfl, bel.frame _, fun h => by cases h⟩

theorem over : Rows.callWordsRow.holds Tryd.pinned (OpenSpec.ofChange Rows.callWordsSpec) :=
  OpenClaim.holds_of_wide 5 Tryd.f5 rfl rfl rfl rfl rfl rfl rfl ⟨rfl, rfl, rfl, rfl, rfl⟩ rfl rfl rfl rfl rfl (by kernel_rfl) Tryd.func5 (by kernel_rfl)
    (of_decide_eq_true (by kernel_rfl)) (by unfold Func.isWrapper; first | (rw [if_pos (by decide +kernel)]; kernel_rfl) | (rw [if_neg (by decide +kernel)]; exact ⟨rfl, rfl⟩))
    (fun os started H enc _ => lifted os started H enc)

/-- The statement. -/
theorem proved : Rows.CallWordsCardSaid :=
  Claim7.holds_tied_plain_at .later [] [.data, .data, .data] true (true, "c1b01954ffc0753169e2318a28d598a11c4203c1182dc2c9381d645921c02716") true
    over (fun _ h => by cases h) (by kernel_rfl) (fun _ h => by cases h) callWords_row_tie rfl ⟨rfl, rfl⟩ (by kernel_rfl) rfl
    (fun f fn hf hfn => by
      obtain rfl : f = 5 := Option.some.inj ((show Tryd.prog.funcNamed "linchpin/linchpinlaw21.CallWords" = some 5 by kernel_rfl).symm.trans hf) |>.symm
      obtain rfl : fn = Tryd.f5 := (Option.some.inj (Tryd.func5.symm.trans hfn)).symm
      exact ⟨by kernel_rfl, fun j t ht => by
        rw [Tryd.params5] at ht
        rcases j with _ | j
        · obtain rfl : 9 = t := by simpa using ht
          exact (show Tryd.prog.wantsStandIn 9 = false by kernel_rfl)
        rcases j with _ | j
        · obtain rfl : 9 = t := by simpa using ht
          exact (show Tryd.prog.wantsStandIn 9 = false by kernel_rfl)
        simp at ht⟩)
    (by kernel_rfl)
#print axioms proved

end Go.Proofs.YtanlodaimbocoaaDoor.callWords
