/-
  A line's command in one spelling, of the program's and of the document's.
-/
import Derived.Test.YtanlodaimbocoaaDoorStP
namespace Go.Proofs.YtanlodaimbocoaaDoor
open Go.RowKit

noncomputable def parN (l : Bs) : Bs := match parseV l with | some p => p.1 | none => []
noncomputable def parZ (l : Bs) : List Int := match parseV l with | some p => p.2 | none => []
noncomputable def parK (l : Bs) : Int := match parseV l with | some _ => 0 | none => 9
theorem parZ_len (l : Bs) : (parZ l).length ≤ l.length := by
  unfold parZ
  split
  · rename_i p h
    unfold parseV at h
    split at h
    · cases h
    · rename_i x r hw
      split at h
      · rename_i z hz
        split at h
        · injection h with h
          subst h
          have h1 := numsV_len hz
          have h2 := words_len l
          rw [hw, List.length_cons] at h2
          show z.length ≤ l.length
          omega
        · cases h
      · cases h
  · simp
theorem out_u {B : Nat} {w : World} {e : Ending} {l : Bs} (h : ParseOut B w e (parseV l)) (hl : l.length ≤ 100000) : ∃ ao c, e = .returned (.tuple #[.agg #[strv (parN l), .slice ao (parZ l).length c], .int .i64 (parK l)]) ∧ NumsAt w ao (parZ l).length (parZ l) := by
  have hz := parZ_len l
  unfold parN parZ parK at *
  cases hp : parseV l with
  | none => rw [hp] at h hz; exact ⟨none, 0, h, rfl, by simp, fun h0 => by simp at h0⟩
  | some p =>
    rw [hp] at h hz
    obtain ⟨ao, c, e1, ho⟩ := h
    have hz2 : p.2.length ≤ l.length := hz
    exact ⟨ao, c, e1, nums_of ho (by omega)⟩
theorem parse_u (s : ByteArray) (hs : s.size ≤ 100000) (w : World) : Calls Tryd.prog 9 #[.string s] w fun e w' => ∃ ao c, e = .returned (.tuple #[.agg #[strv (parN s.data.toList), .slice ao (parZ s.data.toList).length c], .int .i64 (parK s.data.toList)]) ∧ NumsAt w' ao (parZ s.data.toList).length (parZ s.data.toList) ∧ Below w.heap.size w w' :=
  (parse_any s hs w).mono fun e w' h => by
    obtain ⟨ao, c, h1, h2⟩ := out_u h.1 (by rw [← bts_size]; exact hs)
    exact ⟨ao, c, h1, h2, h.2⟩
theorem rparse_u (s : ByteArray) (hs : s.size ≤ 100000) (w : World) : Calls Tryd.prog 10 #[.string s] w fun e w' => ∃ ao c, e = .returned (.tuple #[.agg #[strv (parN s.data.toList), .slice ao (parZ s.data.toList).length c], .int .i64 (parK s.data.toList)]) ∧ NumsAt w' ao (parZ s.data.toList).length (parZ s.data.toList) ∧ Below w.heap.size w w' :=
  (rparse_any s hs w).mono fun e w' h => by
    obtain ⟨ao, c, h1, h2⟩ := out_u h.1 (by rw [← bts_size]; exact hs)
    exact ⟨ao, c, h1, h2, h.2⟩
theorem parse_both (s : ByteArray) (hs : s.size ≤ 100000) : ∃ (nm : Bs) (z : List Int) (n : Nat) (k : Int),
    Box (∀ w, Calls Tryd.prog 9 #[.string s] w fun e w' => ∃ ao c, e = .returned (.tuple #[.agg #[strv nm, .slice ao n c], .int .i64 k]) ∧ NumsAt w' ao n z ∧ Below w.heap.size w w') ∧
    Box (∀ w, Calls Tryd.prog 10 #[.string s] w fun e w' => ∃ ao c, e = .returned (.tuple #[.agg #[strv nm, .slice ao n c], .int .i64 k]) ∧ NumsAt w' ao n z ∧ Below w.heap.size w w') :=
  ⟨_, _, _, _, ⟨parse_u s hs⟩, ⟨rparse_u s hs⟩⟩
theorem words_u (s : ByteArray) (hs : s.size ≤ 100000) (w : World) : Calls Tryd.prog 16 #[.string s] w fun e w' => ∃ a c, e = .returned (.slice a (words s.data.toList).length c) ∧ VRow w' a (strV (words s.data.toList)) ∧ Below w.heap.size w w' :=
  (words_any s (by omega) w).mono fun e w' h => by
    obtain ⟨v, rfl, ⟨a, c, rfl, ho⟩, hb⟩ := h
    exact ⟨a, c, rfl, VRow.own ho, hb⟩
theorem words_both (s : ByteArray) (hs : s.size ≤ 100000) : ∃ (WS : List Bs) (N : Nat), Box (N = WS.length ∧ N ≤ 1000000) ∧
    Box (∀ w, Calls Tryd.prog 16 #[.string s] w fun e w' => ∃ a c, e = .returned (.slice a N c) ∧ VRow w' a (strV WS) ∧ Below w.heap.size w w') ∧
    Box (∀ w, Calls Tryd.prog 17 #[.string s] w fun e w' => ∃ a c, e = .returned (.slice a N c) ∧ VRow w' a (strV WS) ∧ Below w.heap.size w w') := by
  refine ⟨words s.data.toList, (words s.data.toList).length, ⟨rfl, ?_⟩, ⟨fun w => words_u s hs w⟩, ⟨fun w => (rwords_any s (by omega) w).mono fun e w' h => ?_⟩⟩
  · have := words_len s.data.toList
    rw [← bts_size] at this
    omega
  · obtain ⟨v, rfl, ⟨a, c, rfl, ho⟩, hb⟩ := h
    exact ⟨a, c, rfl, VRow.own ho, hb⟩
theorem numT_form (v : Option Nat) : ∃ (m : Int) (o : Bool), numT v = .tuple #[.int .i64 m, .bool o] := by
  cases v with
  | none => exact ⟨0, false, rfl⟩
  | some n => exact ⟨n, true, rfl⟩
theorem number_both (s : ByteArray) (hs : s.size ≤ 100000) : ∃ (m : Int) (o : Bool),
    Box (∀ w, Calls Tryd.prog 11 #[.string s] w fun e w' => e = .returned (.tuple #[.int .i64 m, .bool o]) ∧ Below w.heap.size w w') ∧
    Box (∀ w, Calls Tryd.prog 12 #[.string s] w fun e w' => e = .returned (.tuple #[.int .i64 m, .bool o]) ∧ w = w') := by
  obtain ⟨m, o, h⟩ := numT_form (numV s.data.toList)
  refine ⟨m, o, ⟨fun w => ?_⟩, ⟨fun w => ?_⟩⟩
  · rw [← h]; exact number_any s (by omega) w
  · rw [← h]; exact rnumber_any s (by omega) w
theorem str_strv (s : ByteArray) : Value.string s = strv s.data.toList := by simp
theorem nums_both (s : ByteArray) (hs : s.size ≤ 100000) : ∃ (m : Int) (o : Bool),
    Box (∀ w, Calls Tryd.prog 13 #[.string s] w fun e w' => e = .returned (.tuple #[.int .i64 m, .bool o]) ∧ Below w.heap.size w w') ∧
    Box (∀ w, Calls Tryd.prog 14 #[.string s] w fun e w' => e = .returned (.tuple #[.int .i64 m, .bool o]) ∧ w = w') := by
  obtain ⟨m, o, h⟩ := numT_form (namesF s.data.toList)
  rw [str_strv]
  refine ⟨m, o, ⟨fun w => ?_⟩, ⟨fun w => ?_⟩⟩
  · rw [← h]; exact nums_any _ (by unfold sok maxLen; rw [← bts_size]; omega) w
  · rw [← h]; exact rnums_any _ w
/-- A block that is laid behind a call. -/
theorem keep_blk {w0 w1 : World} {B0 : Nat} {ao : Option Addr} {n : Nat} {z : List Int} (hb : Below B0 w0 w1) (hn : NumsAt w1 ao n z) (o : Obj) (h0 : B0 = w0.heap.size := by rfl) :
    ∃ (V : World) (B : Nat), V = w1.alloc o ∧ B = w1.heap.size ∧ Box (V.heap[B]? = some o) ∧ Box (Below B0 w0 V) ∧ Box (NumsAt V ao n z) := by
  have h2 : Below w1.heap.size w1 (w1.alloc o) := (Below.refl _ _).alloc (Nat.le_refl _) _
  exact ⟨_, _, rfl, rfl, ⟨blk_new _ _⟩, ⟨hb.trans (h2.mono (by rw [h0]; exact hb.size))⟩, ⟨hn.later h2⟩⟩

end Go.Proofs.YtanlodaimbocoaaDoor
