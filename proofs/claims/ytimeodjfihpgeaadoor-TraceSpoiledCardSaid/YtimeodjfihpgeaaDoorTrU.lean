/-
  Records of ticks: the walk of the document's 'number'.
-/
import Derived.Test.YtimeodjfihpgeaaDoorTrT
namespace Go.Proofs.YtimeodjfihpgeaaDoor
open Go.RowKit

theorem tw_app {d r : Bs} (hd : ∀ c ∈ d, digB c) (hr : NoDig r) : (d ++ r).takeWhile (fun c => decide (digB c)) = d ∧ (d ++ r).dropWhile (fun c => decide (digB c)) = r := by
  induction d with
  | nil =>
    cases r with
    | nil => exact ⟨rfl, rfl⟩
    | cons c r =>
      have := hr c r rfl
      simp [List.takeWhile, List.dropWhile, this]
  | cons c d ih =>
    have hc := hd c (List.mem_cons_self ..)
    have ih := ih (fun x hx => hd x (List.mem_cons_of_mem _ hx))
    simp only [List.cons_append]
    rw [List.takeWhile_cons_of_pos (by simpa using hc), List.dropWhile_cons_of_pos (by simpa using hc), ih.1, ih.2]
    exact ⟨rfl, rfl⟩
theorem number_law {l : Bs} {a i : Nat} (h1 : a ≤ i) (h2 : i ≤ l.length) (hd : ∀ c ∈ (l.drop a).take (i - a), digB c) (hr : NoDig (l.drop i)) :
    numberF (l.drop a) = match numV ((l.drop a).take (i - a)) with | some n => (n, l.drop i) | none => (-1, l.drop a) := by
  have e : l.drop a = (l.drop a).take (i - a) ++ l.drop i := by
    have := (List.take_append_drop (i - a) (l.drop a)).symm
    rw [List.drop_drop, show a + (i - a) = i from by omega] at this
    exact this
  obtain ⟨e1, e2⟩ := tw_app hd hr
  rw [← e] at e1 e2
  unfold numberF
  rw [e1, e2]
  cases numV ((l.drop a).take (i - a)) <;> rfl
theorem dropWhile_len (p : UInt8 → Bool) : ∀ l : Bs, l.dropWhile p = l.drop (l.takeWhile p).length
  | [] => rfl
  | c :: l => by
    by_cases h : p c = true
    · rw [List.takeWhile_cons_of_pos h, List.dropWhile_cons_of_pos h, dropWhile_len p l]; rfl
    · rw [List.takeWhile_cons_of_neg h, List.dropWhile_cons_of_neg h]; rfl
/-- What 'number' tells: the number, and where it ends. -/
noncomputable def numE (l : Bs) (a : Nat) : Nat := l.length - (numberF (l.drop a)).2.length
theorem numE_drop {l : Bs} {a : Nat} (ha : a ≤ l.length) : (numberF (l.drop a)).2 = l.drop (numE l a) ∧ a ≤ numE l a ∧ numE l a ≤ l.length ∧ (0 ≤ (numberF (l.drop a)).1 → a < numE l a) := by
  have hl := numberF_len (l.drop a)
  rw [List.length_drop] at hl
  have key : ∃ k, (numberF (l.drop a)).2 = l.drop k ∧ k ≤ l.length := by
    unfold numberF
    cases numV ((l.drop a).takeWhile (fun c => decide (digB c))) with
    | none => exact ⟨a, rfl, ha⟩
    | some n =>
      have e := List.takeWhile_append_dropWhile (p := fun c : UInt8 => decide (digB c)) (l := l.drop a)
      have e2 := dropWhile_len (fun c : UInt8 => decide (digB c)) (l.drop a)
      have e3 := congrArg List.length e
      rw [List.length_append, List.length_drop] at e3
      exact ⟨a + ((l.drop a).takeWhile (fun c => decide (digB c))).length, by simp only; rw [e2, List.drop_drop], by omega⟩
  obtain ⟨k, hk, hkl⟩ := key
  have hkl2 : (numberF (l.drop a)).2.length = l.length - k := by rw [hk, List.length_drop]
  unfold numE
  refine ⟨by rw [hkl2, hk]; congr 1; omega, by omega, by omega, fun h => by have := hl.2 h; omega⟩

set_option maxHeartbeats 8000000 in
set_option maxRecDepth 100000 in
theorem rnum25_any (s : ByteArray) (hs : s.size ≤ 1000000) (a : Nat) (ha : a ≤ s.size) (w : World) :
    Calls Tryd.prog 31 #[.string s, .int .i64 a] w fun e w' => e = .returned (.tuple #[.int .i64 (numberF (s.data.toList.drop a)).1, .int .i64 (numE s.data.toList a)]) ∧ w = w' := by
  have HL := Box.mk (bts_size s)
  go_enter Tryd.func31, Tryd.ntmps31
  go_upto_block 0 with fail
  go_wp2
  go_loop [6] (fun s6 => ∃ i : Nat, s6 = .int .i64 i ∧ a ≤ i ∧ i ≤ s.size ∧ Box (∀ c ∈ (s.data.toList.drop a).take (i - a), digB c)) (fun s6 => s.size - (intOf s6).toNat)
  case atStart => exact ⟨a, rfl, Nat.le_refl _, ha, ⟨by simp⟩⟩
  case round =>
    obtain ⟨i, rfl, hai, his, HD⟩ := hrel
    have hcase : (∃ hp : i < s.size, (i : Int) < s.size ∧ (48 : Int) ≤ (s[i]'hp).toNat ∧ ((s[i]'hp).toNat : Int) ≤ 57) ∨ (Box (NoDig (s.data.toList.drop i)) ∧ ((∃ hp : i < s.size, (i : Int) < s.size ∧ ¬ (48 : Int) ≤ (s[i]'hp).toNat) ∨ (∃ hp : i < s.size, (i : Int) < s.size ∧ (48 : Int) ≤ (s[i]'hp).toNat ∧ ¬ ((s[i]'hp).toNat : Int) ≤ 57) ∨ ¬ (i : Int) < s.size)) := by
      by_cases hp : i < s.size
      · have hl : i < s.data.toList.length := by rw [← bts_size]; exact hp
        have hdr : s.data.toList.drop i = s[i]'hp :: s.data.toList.drop (i + 1) := by rw [List.drop_eq_getElem_cons hl, bts_get hp]
        by_cases hd : digB (s[i]'hp)
        · unfold digB at hd
          exact .inl ⟨hp, by omega, by omega, by omega⟩
        · have hn : NoDig (s.data.toList.drop i) := fun c r e => by rw [hdr] at e; injection e with e _; subst e; exact hd
          unfold digB at hd
          by_cases h48 : 48 ≤ (s[i]'hp).toNat
          · exact .inr ⟨⟨hn⟩, .inr (.inl ⟨hp, by omega, by omega, by omega⟩)⟩
          · exact .inr ⟨⟨hn⟩, .inl ⟨hp, by omega, by omega⟩⟩
      · exact .inr ⟨⟨fun c r e => by rw [List.drop_eq_nil_of_le (by rw [← bts_size]; omega)] at e; cases e⟩, .inr (.inr (by omega))⟩
    rcases hcase with ⟨hp, hpi, h1, h2⟩ | ⟨HN, hcs⟩
    · have HD2 : Box (∀ c ∈ (s.data.toList.drop a).take (i + 1 - a), digB c) := ⟨fun c hc => by
        have hl : i < s.data.toList.length := by rw [← bts_size]; exact hp
        rw [show i + 1 - a = (i - a) + 1 from by omega, List.take_succ_eq_append_getElem (by rw [List.length_drop]; omega)] at hc
        rcases List.mem_append.1 hc with hc | hc
        · exact HD.out c hc
        · rw [List.mem_singleton] at hc
          have e : (s.data.toList.drop a)[i - a]'(by rw [List.length_drop]; omega) = s[i]'hp := by
            rw [List.getElem_drop]
            simp only [show a + (i - a) = i from by omega]
            exact bts_get hp
          rw [e] at hc
          subst hc
          unfold digB
          omega⟩
      clear HD
      go_wp2
      go_round
      case rel => exact ⟨i + 1, by go_num, by omega, by omega, HD2⟩
      case measure => simp [intOf] <;> omega
    · have hex : s.extract a i = ⟨((s.data.toList.drop a).take (i - a)).toArray⟩ := Lib.extract_eq ..
      have HNL := Box.mk (number_law (l := s.data.toList) hai (by rw [← bts_size]; exact his) HD.out HN.out)
      have hsz2 : (s.extract a i).size ≤ 1000000 := by rw [ByteArray.size_extract]; omega
      have hnum := fun w => rnumber_any (s.extract a i) hsz2 w
      rw [show (s.extract a i).data.toList = (s.data.toList.drop a).take (i - a) from by rw [hex]] at hnum
      have HNU := Box.mk hnum
      have hla : a ≤ s.data.toList.length := by rw [← bts_size]; exact ha
      have HE := Box.mk (numE_drop hla)
      have HLS : Box (s.data.toList.length = s.size) := ⟨(bts_size s).symm⟩
      clear hex hnum hsz2 HD HN
      generalize (s.data.toList.drop a).take (i - a) = D at HNL HNU
      generalize numV D = R at HNL HNU
      cases R with
      | none =>
        have HR : Box ((numberF (s.data.toList.drop a)).1 = -1 ∧ numE s.data.toList a = a) := ⟨by
          rw [HNL.out]
          refine ⟨rfl, ?_⟩
          unfold numE
          rw [HNL.out]
          simp only [List.length_drop]
          omega⟩
        clear HNL HE HLS
        rcases hcs with ⟨hp, h1, h2⟩ | ⟨hp, h1, h2, h3⟩ | h1
        all_goals
          go_wp2_with (go_at_call 41; (with_reducible refine (HNU.out _).mono ?_); rintro e w1 ⟨rfl, rfl⟩; unfold numT)
          go_ret2
          exact ⟨by rw [HR.out.1, HR.out.2]; rfl, rfl⟩
      | some n =>
        have HR : Box ((numberF (s.data.toList.drop a)).1 = n ∧ numE s.data.toList a = i) := ⟨by
          rw [HNL.out]
          refine ⟨rfl, ?_⟩
          unfold numE
          rw [HNL.out]
          simp only [List.length_drop]
          rw [HLS.out]
          omega⟩
        clear HNL HE HLS
        rcases hcs with ⟨hp, h1, h2⟩ | ⟨hp, h1, h2, h3⟩ | h1
        all_goals
          go_wp2_with (go_at_call 41; (with_reducible refine (HNU.out _).mono ?_); rintro e w1 ⟨rfl, rfl⟩; unfold numT)
          go_ret2
          exact ⟨by rw [HR.out.1, HR.out.2]; rfl, rfl⟩

end Go.Proofs.YtimeodjfihpgeaaDoor
