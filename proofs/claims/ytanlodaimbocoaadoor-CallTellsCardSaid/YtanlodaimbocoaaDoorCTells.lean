/-
  The law of telling: every command is told as the document says, and is read again, with whatever blanks between.
-/
import Derived.Test.YtanlodaimbocoaaDoorStQ
import Derived.Test.YtanlodaimbocoaaDoorStR
import Derived.Test.YtanlodaimbocoaaDoorArgs
import Derived.Test.YtanlodaimbocoaaDoorTie
import Derived.Test.YtanlodaimbocoaaDoorCards
import Derived.SevenTiedAt
import Derived.ChangeMaps5
import Derived.Deep.RegionHeld3
namespace Go.Proofs.YtanlodaimbocoaaDoor.callTells
open Go Go.ChangeShapes Go.WideShapes Go.ChangeAt Go.RowKit Go.Proofs.YtanlodaimbocoaaDoor

/-! The argument: a struct of a string and of numbers. -/
section
variable {H : Type} {enc : TypeId × Value → H} {P : Program} {w : World} {held : Bool}
theorem open_call {t e : TypeId} {f0 f1 : Field} {v : Value} {d : DataW H} {p : List MemPlace} {b0 : Nat} (he : P.underlying t = some (.struct #[f0, f1])) (hC : P.cellsOf t = 2)
    (o0 : f0.offset = 0) (c0 : P.cellsOf f0.type = 1) (u0 : P.underlying f0.type = some .string) (o1 : f1.offset = 1) (c1 : P.cellsOf f1.type = 1) (u1 : P.underlying f1.type = some (.slice e))
    (ue : P.underlying e = some (.int .i64)) (ce : P.cellsOf e = 1) (hv : Value.okWide P w .any b0 t v) (h : DataW.Trod enc P w 0 (fun _ => true) held t v d p) :
    ∃ (s : ByteArray) (a : Option Addr) (n c : Nat) (z : List Int), v = .agg #[.string s, .slice a n c] ∧ s.size ≤ maxLen ∧ ArgInts .i64 w a n z := by
  obtain ⟨cs, rfl, hsz⟩ := okWide_struct he hv
  rw [hC] at hsz
  obtain ⟨x0, x1, rfl⟩ : ∃ x0 x1, cs = #[x0, x1] := by
    obtain ⟨l⟩ := cs
    match l, hsz with
    | [x0, x1], _ => exact ⟨x0, x1, rfl⟩
  obtain ⟨fuel, hf⟩ := h
  obtain ⟨y0, y1, m, _, _, t0, t1⟩ := trod_struct2 he hf
  rw [o0, c0] at t0
  rw [o1, c1] at t1
  simp only [Value.cells] at t0 t1
  obtain ⟨s, hs, _, hz⟩ := DataW.trod_string u0 t0
  have hs : x0 = .string s := by simpa using hs
  subst hs
  rcases open_ints u1 ue ce t1 with ⟨hcs, _⟩ | ⟨x, l, c, zs, hcs, _, hl, hm, hzz, _, hcell, hwz⟩
  · have hcs : x1 = .slice none 0 0 := by simpa using hcs
    subst hcs
    exact ⟨s, none, 0, 0, [], rfl, hz, rfl, by omega, by simp, fun h => by omega⟩
  · have hcs : x1 = .slice (some x) l c := by simpa using hcs
    subst hcs
    exact ⟨s, some x, l, c, zs.take l, rfl, hz, argInts_of_ints hl hm (by simpa using hzz) hcell hwz⟩
end

/-! What is told is read again. -/
theorem name_mem {nm : Bs} {n : Nat} (h : namesF nm = some n) : nm ∈ namesL.map Prod.fst := by
  by_cases hc : ∃ p ∈ namesL, nm = p.1
  · obtain ⟨p, hp, rfl⟩ := hc
    exact List.mem_map.2 ⟨p, hp, rfl⟩
  · rw [namesF_none (fun p hp e => hc ⟨p, hp, e⟩)] at h
    cases h
theorem name_word {nm : Bs} {n : Nat} (h : namesF nm = some n) : nm ≠ [] ∧ ∀ c ∈ nm, blankB c = false := by
  have hm := name_mem h
  have hall : ∀ x ∈ namesL.map Prod.fst, x ≠ [] ∧ ∀ c ∈ x, blankB c = false := by decide
  exact hall nm hm
theorem may_name {nm : Bs} {z : List Int} (h : mayB nm z = true) : namesF nm = some z.length := by
  unfold mayB at h
  simp only [Bool.and_eq_true, decide_eq_true_eq] at h
  exact h.1
theorem dig_letter {c : UInt8} (h : digB c) : blankB c = false := by
  unfold digB at h
  unfold blankB
  have h1 : c ≠ 32 := by rintro rfl; revert h; decide
  have h2 : c ≠ 9 := by rintro rfl; revert h; decide
  have h3 : c ≠ 10 := by rintro rfl; revert h; decide
  have h4 : c ≠ 13 := by rintro rfl; revert h; decide
  simp [h1, h2, h3, h4]
theorem itoa_word {v : Int} (h0 : 0 ≤ v) : Lib.itoa v ≠ [] ∧ ∀ c ∈ Lib.itoa v, blankB c = false := by
  refine ⟨fun e => by have := itoa_pos v; rw [e] at this; simp at this, fun c hc => ?_⟩
  have e : Lib.itoa v = Lib.decDigits v.toNat := by unfold Lib.itoa; rw [if_neg (by omega)]
  rw [e] at hc
  exact dig_letter ((dec_val v.toNat).2.1 c hc)
theorem words_tail : ∀ {r : List Bs}, (∀ x ∈ r, x ≠ [] ∧ ∀ c ∈ x, blankB c = false) → words (Lib.joinTail [32] r) = r
  | [], _ => rfl
  | x :: r, h => by
    have e : Lib.joinTail [32] (x :: r) = 32 :: (x ++ Lib.joinTail [32] r) := by simp [Lib.joinTail]
    rw [e, words_ahead (by decide)]
    have hx := h x (List.mem_cons_self ..)
    have ih := words_tail (r := r) (fun y hy => h y (List.mem_cons_of_mem _ hy))
    cases r with
    | nil => rw [show Lib.joinTail [32] ([] : List Bs) = [] from rfl, List.append_nil]; exact words_one hx.1 hx.2
    | cons y r =>
      have e2 : Lib.joinTail [32] (y :: r) = 32 :: (y ++ Lib.joinTail [32] r) := by simp [Lib.joinTail]
      rw [e2] at ih ⊢
      rw [words_join (by decide), words_one hx.1 hx.2]
      rw [words_ahead (by decide)] at ih
      rw [ih]
      rfl
theorem words_text {nm : Bs} {z : List Int} (h : mayB nm z = true) : words (textV nm z) = nm :: z.map Lib.itoa := by
  have hn := name_word (may_name h)
  have hz := may_bounds h
  unfold textV
  rw [if_pos h, Lib.join_cons]
  have hw : ∀ x ∈ z.map Lib.itoa, x ≠ [] ∧ ∀ c ∈ x, blankB c = false := by
    intro x hx
    obtain ⟨v, hv, rfl⟩ := List.mem_map.1 hx
    exact itoa_word (hz v hv).1
  have ht := words_tail hw
  generalize z.map Lib.itoa = r at hw ht
  cases r with
  | nil => rw [show Lib.joinTail [32] ([] : List Bs) = [] from rfl, List.append_nil]; exact words_one hn.1 hn.2
  | cons y r =>
    have e2 : Lib.joinTail [32] (y :: r) = 32 :: (y ++ Lib.joinTail [32] r) := by simp [Lib.joinTail]
    rw [e2] at ht ⊢
    rw [words_join (by decide), words_one hn.1 hn.2]
    rw [words_ahead (by decide)] at ht
    rw [ht]
    rfl
theorem numsV_itoa : ∀ {z : List Int}, (∀ v ∈ z, 0 ≤ v ∧ v ≤ 2147483647) → numsV (z.map Lib.itoa) = some z
  | [], _ => rfl
  | v :: z, h => by
    have hv := h v (List.mem_cons_self ..)
    have ih := numsV_itoa (z := z) (fun u hu => h u (List.mem_cons_of_mem _ hu))
    unfold numsV
    simp only [List.map_cons, numV_itoa, if_pos hv, ih]
    rw [Int.toNat_of_nonneg hv.1]
theorem parse_as {l nm : Bs} {z : List Int} (h : mayB nm z = true) (hw : words l = nm :: z.map Lib.itoa) (hl : l.length ≤ 100000) (n : Nat) (hn : z.length = n) (w : World) :
    Calls Tryd.prog 9 #[.string ⟨l.toArray⟩] w fun e w' => ∃ ao c, e = .returned (.tuple #[.agg #[strv nm, .slice ao n c], .int .i64 0]) ∧ NumsAt w' ao n z ∧ Below w.heap.size w w' := by
  have hp : parseV l = some (nm, z) := by
    unfold parseV
    rw [hw]
    simp only [numsV_itoa (may_bounds h), h, if_true]
  have := parse_u ⟨l.toArray⟩ (by rw [bts_size]; simpa using hl) w
  rw [show (⟨l.toArray⟩ : ByteArray).data.toList = l from by simp] at this
  have e1 : parN l = nm := by unfold parN; rw [hp]
  have e2 : parZ l = z := by unfold parZ; rw [hp]
  have e3 : parK l = 0 := by unfold parK; rw [hp]
  rw [e1, e2, e3, hn] at this
  exact this
theorem words_as {l : Bs} {WS : List Bs} (hw : words l = WS) (N : Nat) (hN : N = WS.length) (hl : l.length ≤ 100000) (w : World) :
    Calls Tryd.prog 16 #[.string ⟨l.toArray⟩] w fun e w' => ∃ ao c, e = .returned (.slice ao N c) ∧ VRow w' ao (strV WS) ∧ Below w.heap.size w w' := by
  have := words_u ⟨l.toArray⟩ (by rw [bts_size]; simpa using hl) w
  rw [show (⟨l.toArray⟩ : ByteArray).data.toList = l from by simp, hw, ← hN] at this
  exact this
theorem text_len {nm : Bs} {z : List Int} (h : mayB nm z = true) : (textV nm z).length ≤ nm.length + 22 * z.length := by
  have := tail_len (may_bounds h)
  unfold textV
  rw [if_pos h, Lib.join_cons, List.length_append]
  omega
theorem grow_ok {WS : List Bs} {k X bl : Bs} {i : Nat} (hX : WS[i]? = some X) (h1 : X ≠ []) (h2 : ∀ c ∈ X, blankB c = false) (hbl : ∀ c ∈ bl, blankB c = true) (h : ∀ x, words (k ++ x) = WS.take i ++ words x) (x : Bs) :
    words (k ++ X ++ [32] ++ bl ++ x) = WS.take (i + 1) ++ words x := by
  rw [show k ++ X ++ [32] ++ bl ++ x = k ++ (X ++ 32 :: (bl ++ x)) from by simp, h, words_join (by decide), words_one h1 h2, words_aheads hbl, List.take_add_one, hX]
  simp
theorem grow_str (k X bl : Bs) : Value.string (⟨k.toArray⟩ ++ ⟨X.toArray⟩ ++ ⟨#[32]⟩ ++ ⟨bl.toArray⟩) = .string ⟨(k ++ X ++ [32] ++ bl).toArray⟩ := by
  rw [strb_app, strb_app, strb_app]
theorem grow_str0 (k X : Bs) : Value.string (⟨k.toArray⟩ ++ ⟨X.toArray⟩ ++ ⟨#[32]⟩) = .string ⟨(k ++ X ++ [32] ++ []).toArray⟩ := by
  rw [List.append_nil, strb_app, strb_app]

theorem below_step {w u v : World} (h : Below w.heap.size w u) (hb : Below u.heap.size u v) : Below w.heap.size w v := h.trans (hb.mono h.size)
theorem below_drew {n : Nat} {a b : World} : Below n a b.drew ↔ Below n a b := ⟨fun h => ⟨h.os, h.tape, h.output, h.size, h.block⟩, fun h => ⟨h.os, h.tape, h.output, h.size, h.block⟩⟩
theorem box_cells {W w : World} {nm : Bs} {sl : Value} {B0 : Nat} (hb : Below B0 (W.alloc (.cells #[strv nm, sl] 25)) w) (h0 : B0 = (W.alloc (.cells #[strv nm, sl] 25)).heap.size := by rfl) :
    w.cell? ⟨W.heap.size, 0, none⟩ = some (strv nm) ∧ w.cell? ⟨W.heap.size, 1, none⟩ = some sl ∧ Below W.heap.size W w ∧ w.heap[W.heap.size]? = some (.cells #[strv nm, sl] 25 (0, 0)) := by
  subst h0
  have hx := (hb.block W.heap.size (by simp)).trans (blk_new _ _)
  exact ⟨(cell_blk hx 0).trans rfl, (cell_blk hx 1).trans rfl, ((Below.refl W.heap.size W).alloc (Nat.le_refl _) _).trans (hb.mono (by simp)), hx⟩
theorem nums_of_arg {w : World} {a : Option Addr} {n : Nat} {z : List Int} (h : ArgInts .i64 w a n z) (hn : n ≤ 1000000) : NumsAt w a n z := ⟨h.1, hn, h.2.2.2⟩
theorem args_later {k : IntKind} {w w' : World} {a : Option Addr} {n : Nat} {z : List Int} (h : ArgInts k w a n z) (hb : Below w.heap.size w w') : ArgInts k w' a n z :=
  ⟨h.1, h.2.1, h.2.2.1, fun h0 => by
    obtain ⟨b, off, e, hl, hc⟩ := h.2.2.2 h0
    exact ⟨b, off, e, Nat.lt_of_lt_of_le hl hb.size, fun i hi => (hb.cell (p := ⟨b, off + i, none⟩) hl).trans (hc i hi)⟩⟩

set_option maxHeartbeats 16000000 in
set_option maxRecDepth 100000 in
theorem walk (x : ByteArray) (a : Option Addr) (n c : Nat) (z : List Int) (a1 : Option Addr) (n1 c1 : Nat) (z1 : List Int) (W : World) (sx : x.size ≤ maxLen) (q0 : ArgInts .i64 W a n z) (q1 : ArgInts .u8 W a1 n1 z1) (ht : Tab W) :
    Calls Tryd.prog 4 #[.agg #[.string x, .slice a n c], .slice a1 n1 c1] W fun e w' => e = .returned (.bool true) ∧ Below W.heap.size W w' := by
  rw [str_strv x]
  have hsok : sok x.data.toList := by unfold sok; rw [← bts_size]; exact sx
  generalize x.data.toList = nm at hsok ⊢
  have HA : Box (∀ w', Below W.heap.size W w' → Calls Tryd.prog 8 #[] w' fun e w'' => e = .returned (.bool true) ∧ Below w'.heap.size w' w'') := ⟨fun w' hb => awake21_any w' (ht.on hb)⟩
  have HB0 : Box (Below W.heap.size W (W.alloc (.cells #[strv nm, .slice a n c] 25))) := ⟨(Below.refl _ _).alloc (Nat.le_refl _) _⟩
  have HT := Box.mk ht
  have Q0 := Box.mk q0
  have Q1 := Box.mk q1
  have HSO := Box.mk hsok
  clear q0 q1 ht hsok sx
  go_enter Tryd.func4, Tryd.ntmps4
  go_upto_region 3 with (go_at_call 8; (with_reducible refine (HA.out _ HB0.out).mono ?_); rintro e w1 ⟨rfl, hb⟩; obtain ⟨e0, e1, hbw, hbk⟩ := box_cells hb; have HB1 := Box.mk hbw; have HX1 := Box.mk hbk; clear hb hbw hbk)
  clear HA HB0
  have hsz : (⟨nm.toArray⟩ : ByteArray).size = nm.length := by rw [bts_size]
  by_cases h1 : 40 < n
  · have i1 : (40 : Int) < n := by omega
    go_wp2
    go_ret
    exact ⟨rfl, HB1.out⟩
  by_cases h2 : 100 < (⟨nm.toArray⟩ : ByteArray).size
  · have i1 : ¬ (40 : Int) < n := by omega
    have i2 : (100 : Int) < nm.length := by omega
    have i3 : 100 < nm.length := by omega
    go_wp2
    go_ret
    exact ⟨rfl, HB1.out⟩
  by_cases h3 : 20 < n1
  · go_wp2
    go_ret
    exact ⟨rfl, HB1.out⟩
  have hnl : nm.length ≤ 100 := by have := bts_size ⟨nm.toArray⟩; simp at this h2; omega
  have hzl : z.length = n := Q0.out.1
  have HN := Box.mk ((nums_of_arg Q0.out (by omega)).later HB1.out)
  have HTW := Box.mk (HT.out.on HB1.out)
  have HC : Box (∀ w', Below w1.heap.size w1 w' → w'.cell? ⟨W.heap.size, 0, none⟩ = some (strv nm) ∧ w'.cell? ⟨W.heap.size, 1, none⟩ = some (.slice a n c)) := ⟨fun w' hb => by
    have h5 := (hb.block W.heap.size (lt_blk HX1.out)).trans HX1.out
    exact ⟨(cell_blk h5 0).trans rfl, (cell_blk h5 1).trans rfl⟩⟩
  obtain ⟨tx, HTX⟩ : ∃ tx, Box (tx = textV nm z) := ⟨_, ⟨rfl⟩⟩
  have HT1 : Box (∀ w', Below w1.heap.size w1 w' → Calls Tryd.prog 19 #[.agg #[strv nm, .slice a n c]] w' fun e w'' => e = .returned (strv tx) ∧ Below w'.heap.size w' w'') := ⟨fun w' hb => by rw [HTX.out]; exact text_any nm a n c z w' (HN.out.later hb) (HTW.out.on hb) (by omega) (by omega)⟩
  have HT2 : Box (∀ w', Below w1.heap.size w1 w' → Calls Tryd.prog 20 #[.agg #[strv nm, .slice a n c]] w' fun e w'' => e = .returned (strv tx) ∧ Below w'.heap.size w' w'') := ⟨fun w' hb => by rw [HTX.out]; exact rtext_any nm a n c z w' (HN.out.later hb) (by omega) (by omega)⟩
  obtain ⟨m, HMM⟩ : ∃ m, Box (m = mayB nm z) := ⟨_, ⟨rfl⟩⟩
  have HM1 : Box (∀ w', Below w1.heap.size w1 w' → Calls Tryd.prog 21 #[.agg #[strv nm, .slice a n c]] w' fun e w'' => e = .returned (.bool m) ∧ Below w'.heap.size w' w'') := ⟨fun w' hb => by rw [HMM.out]; exact may_any nm HSO.out a n c z w' (HN.out.later hb)⟩
  have HM2 : Box (∀ w', Below w1.heap.size w1 w' → Calls Tryd.prog 22 #[.agg #[strv nm, .slice a n c]] w' fun e w'' => e = .returned (.bool m) ∧ Below w'.heap.size w' w'') := ⟨fun w' hb => by rw [HMM.out]; exact rmay_any nm a n c z w' (HN.out.later hb)⟩
  have HQ1 : Box (∀ w', Below w1.heap.size w1 w' → ArgInts .u8 w' a1 n1 z1) := ⟨fun w' hb => args_later Q1.out (below_step HB1.out hb)⟩
  clear Q0 Q1 HT HTW HSO HX1
  go_upto_region 6 with (go_at_call 19; (with_reducible refine (HT1.out _ (Below.refl _ _)).mono ?_); rintro e w2 ⟨rfl, hb⟩; have HB2 := Box.mk hb; obtain ⟨f0, f1⟩ := HC.out w2 hb; clear hb)
  have hxx : (tx != tx) = false := by simp
  have hmm : (m != m) = false := by simp
  have hbr := HB2.out
  have hbd := hbr.drew
  clear e0 e1 HT1
  go_region_held3 (fun w' => w'.cell? ⟨W.heap.size, 0, none⟩ = some (strv nm) ∧ w'.cell? ⟨W.heap.size, 1, none⟩ = some (.slice a n c) ∧ Below w1.heap.size w1 w') (simp [*, below_drew])
    (first
      | (go_at_call 20; (with_reducible refine (HT2.out _ (by first | assumption | exact hbr.drew)).mono ?_); rintro e w5 ⟨rfl, hb⟩; have hb7 := below_step (w := w1) (by first | assumption | exact hbr.drew) hb; obtain ⟨g0, g1⟩ := HC.out w5 hb7)
      | (go_at_call 21; (with_reducible refine (HM1.out _ (by first | assumption | exact hbr.drew)).mono ?_); rintro e w5 ⟨rfl, hb⟩; have hb7 := below_step (w := w1) (by first | assumption | exact hbr.drew) hb; obtain ⟨g0, g1⟩ := HC.out w5 hb7)
      | (go_at_call 22; (with_reducible refine (HM2.out _ (by first | assumption | exact hbr.drew)).mono ?_); rintro e w5 ⟨rfl, hb⟩; have hb7 := below_step (w := w1) (by first | assumption | exact hbr.drew) hb; obtain ⟨g0, g1⟩ := HC.out w5 hb7))
  rename World => V5
  have HV5 : Box (Below w1.heap.size w1 V5) := ⟨by assumption⟩
  cases m with
  | false =>
    have htx : tx = [] := by rw [HTX.out]; unfold textV; rw [if_neg (by rw [← HMM.out]; simp)]
    subst htx
    go_wp2_with (go_at_call 22; (with_reducible refine (HM2.out _ HV5.out).mono ?_); rintro e w6 ⟨rfl, hb⟩; have HB6 := Box.mk (below_step HV5.out hb); clear hb)
    go_ret
    exact ⟨by simp, below_step HB1.out HB6.out⟩
  | true =>
    have hm : mayB nm z = true := HMM.out.symm
    have HWS := Box.mk (words_text hm)
    have htl := text_len hm
    rw [← HTX.out] at HWS htl
    have htl : tx.length ≤ 1000 := by omega
    have HP := Box.mk (fun w => parse_as (l := tx) hm HWS.out (by omega) n hzl w)
    have HPT : Box (∀ (k : Bs) (w : World), words k = nm :: z.map Lib.itoa → k.length ≤ 100000 → Calls Tryd.prog 9 #[.string ⟨k.toArray⟩] w fun e w' => ∃ ao c, e = .returned (.tuple #[.agg #[strv nm, .slice ao n c], .int .i64 0]) ∧ NumsAt w' ao n z ∧ Below w.heap.size w w') := ⟨fun k w hk hl => parse_as (l := k) hm hk hl n hzl w⟩
    obtain ⟨WS, HE⟩ : ∃ WS, Box (WS = nm :: z.map Lib.itoa) := ⟨_, ⟨rfl⟩⟩
    have HF : Box (∀ X ∈ WS, X ≠ [] ∧ (∀ c ∈ X, blankB c = false) ∧ X.length ≤ 100) := ⟨fun X hX => by
      rw [HE.out] at hX
      rcases List.mem_cons.1 hX with rfl | hX
      · exact ⟨(name_word (may_name hm)).1, (name_word (may_name hm)).2, hnl⟩
      · obtain ⟨v, hv, rfl⟩ := List.mem_map.1 hX
        have hvb := may_bounds hm v hv
        have hvl := itoa_len hvb.1 hvb.2
        exact ⟨(itoa_word hvb.1).1, (itoa_word hvb.1).2, by omega⟩⟩
    obtain ⟨N, HNN⟩ : ∃ N, Box (N = n + 1) := ⟨_, ⟨rfl⟩⟩
    have HL : Box (N = WS.length) := ⟨by rw [HE.out, HNN.out]; simp [hzl]⟩
    have hN41 : N ≤ 41 := by have := HNN.out; omega
    have HWC := Box.mk (fun w => words_as (l := tx) (HWS.out.trans HE.out.symm) N HL.out (by omega) w)
    clear hm htl HMM HTX HT2 HM1
    go_upto_region 11 with (first
      | (go_at_call 22; (with_reducible refine (HM2.out _ HV5.out).mono ?_); rintro e w6 ⟨rfl, hb⟩; have HB6 := Box.mk (below_step HV5.out hb); clear hb)
      | (go_at_call 9; (with_reducible refine (HP.out _).mono ?_); rintro e w7 ⟨xa, xc, rfl, hn, hb⟩; have HB7 := Box.mk (below_step HB6.out hb); have HN7 := Box.mk hn; clear hb hn))
    obtain ⟨V, B', hV, hB', HX2, HBV, HNV⟩ := keep_blk HB7.out HN7.out (.cells #[strv nm, .slice xa n xc] 25)
    rw [← hV, ← hB']
    clear hV hB' HB6 HB7 HN7 HP HM2
    go_upto_block 0 with (go_at_call 16; (with_reducible refine (HWC.out _).mono ?_); rintro e w8 ⟨wa, wc, rfl, hv, hb⟩; have HB8 := Box.mk (below_step HBV.out hb); have HV8 := Box.mk hv; have HX3 := Box.mk ((hb.block B' (lt_blk HX2.out)).trans HX2.out); have HN8 := Box.mk (HNV.out.later hb); clear hb hv)
    clear HX2 HNV HBV HWC HB2 HV5 hxx hmm hbr hbd
    go_wp2
    go_loopw [9, 10] (fun s9 s10 wr => ∃ (i : Nat) (k : Bs), i ≤ N ∧ s10 = .int .i64 i ∧ s9 = .string ⟨k.toArray⟩ ∧ k.length ≤ 200 * i ∧ Box (∀ x, words (k ++ x) = WS.take i ++ words x) ∧ Box (Below w8.heap.size w8 wr)) (fun _ s10 _ => N - (intOf s10).toNat)
    case atStart => exact ⟨0, [], by omega, rfl, rfl, by simp, ⟨fun x => by simp⟩, ⟨Below.refl _ _⟩⟩
    case round =>
      obtain ⟨i, k, hi, rfl, rfl, hk, HK, HB⟩ := hrel
      by_cases hiN : i < N
      · have hil : i < WS.length := by rw [← HL.out]; exact hiN
        obtain ⟨b, off, hwa, hbl, hc⟩ := HV8.out (by simp [strV]; omega)
        subst hwa
        have hci := hc i (by simpa [strV] using hil)
        obtain ⟨X, HXW, e0⟩ : ∃ X, Box (WS[i]? = some X ∧ X ≠ [] ∧ (∀ c ∈ X, blankB c = false) ∧ X.length ≤ 100) ∧ wr.cell? ⟨b, off + i, none⟩ = some (strv X) :=
          ⟨WS[i], ⟨List.getElem?_eq_getElem hil, HF.out WS[i] (List.getElem_mem hil)⟩, (HB.out.cell (p := ⟨b, off + i, none⟩) hbl).trans (by rw [hci]; simp [strV])⟩
        have hXl := HXW.out.2.2.2
        have hki : (i : Int) < N := by omega
        have hk0 : (0 : Int) ≤ i := by omega
        have hs1 : (⟨k.toArray⟩ : ByteArray).size ≤ 10000 := by rw [bts_size]; simp; omega
        have hs2 : (⟨X.toArray⟩ : ByteArray).size ≤ 100 := by rw [bts_size]; simp; omega
        have hs3 : (⟨k.toArray⟩ ++ ⟨X.toArray⟩ : ByteArray).size ≤ 10100 := by simp only [ByteArray.size_append]; omega
        have hs4 : (⟨k.toArray⟩ ++ ⟨X.toArray⟩ ++ ⟨#[32]⟩ : ByteArray).size ≤ 10101 := by simp only [ByteArray.size_append] at hs3 ⊢; show _ + 1 ≤ _; omega
        clear hc hci hbl
        by_cases hn1 : 0 < n1
        · obtain ⟨j, hj⟩ : ∃ j, j = i % n1 := ⟨_, rfl⟩
          have hjn : j < n1 := by rw [hj]; exact Nat.mod_lt _ hn1
          have hr4 : (i : Int) % n1 = j := by rw [hj]; simp
          have hr3 : (i : Int).tmod n1 = j := by rw [Int.tmod_eq_emod_of_nonneg (by omega)]; exact hr4
          have HQ := HQ1.out wr (below_step HB8.out HB.out)
          obtain ⟨b1, off1, rfl, hbl2, hc1⟩ := HQ.get hn1
          have hzz := HQ.u8 j
          have e1 := hc1 j hjn
          clear hc1 HQ hj
          generalize zv z1 j = y at e1 hzz
          obtain ⟨y, rfl⟩ : ∃ m : Nat, y = m := ⟨y.toNat, by omega⟩
          have hjn1 : (j : Int) < n1 := by omega
          have hj0 : (0 : Int) ≤ j := by omega
          have hnz : ¬ (n1 : Int) = 0 := by omega
          have hn0 : (0 : Int) < n1 := by omega
          rcases (show y % 4 = 0 ∨ y % 4 = 1 ∨ y % 4 = 2 ∨ y % 4 = 3 by omega) with hr | hr | hr | hr
          · have hr1 : (y : Int) % 4 = 0 := by omega
            have hr2 : (y : Int).tmod 4 = 0 := by rw [Int.tmod_eq_emod_of_nonneg (by omega)]; omega
            clear hr
            go_wp2
            go_roundw
            case rel => exact ⟨i + 1, k ++ X ++ [32] ++ [], by omega, by go_num, (by first | exact grow_str k X [] | exact grow_str0 k X), by simp; omega, ⟨grow_ok HXW.out.1 HXW.out.2.1 HXW.out.2.2.1 (by decide) HK.out⟩, ⟨HB.out.alloc HB.out.size _⟩⟩
            case measure => simp [intOf] <;> omega
          · have hr1 : (y : Int) % 4 = 1 := by omega
            have hr2 : (y : Int).tmod 4 = 1 := by rw [Int.tmod_eq_emod_of_nonneg (by omega)]; omega
            clear hr
            go_wp2
            go_roundw
            case rel => exact ⟨i + 1, k ++ X ++ [32] ++ [9], by omega, by go_num, grow_str k X [9], by simp; omega, ⟨grow_ok HXW.out.1 HXW.out.2.1 HXW.out.2.2.1 (by decide) HK.out⟩, ⟨HB.out.alloc HB.out.size _⟩⟩
            case measure => simp [intOf] <;> omega
          · have hr1 : (y : Int) % 4 = 2 := by omega
            have hr2 : (y : Int).tmod 4 = 2 := by rw [Int.tmod_eq_emod_of_nonneg (by omega)]; omega
            clear hr
            go_wp2
            go_roundw
            case rel => exact ⟨i + 1, k ++ X ++ [32] ++ [10, 32], by omega, by go_num, grow_str k X [10, 32], by simp; omega, ⟨grow_ok HXW.out.1 HXW.out.2.1 HXW.out.2.2.1 (by decide) HK.out⟩, ⟨HB.out.alloc HB.out.size _⟩⟩
            case measure => simp [intOf] <;> omega
          · have hr1 : (y : Int) % 4 = 3 := by omega
            have hr2 : (y : Int).tmod 4 = 3 := by rw [Int.tmod_eq_emod_of_nonneg (by omega)]; omega
            clear hr
            go_wp2
            go_roundw
            case rel => exact ⟨i + 1, k ++ X ++ [32] ++ [13], by omega, by go_num, grow_str k X [13], by simp; omega, ⟨grow_ok HXW.out.1 HXW.out.2.1 HXW.out.2.2.1 (by decide) HK.out⟩, ⟨HB.out.alloc HB.out.size _⟩⟩
            case measure => simp [intOf] <;> omega

        · have hn0 : ¬ (0 : Int) < n1 := by omega
          go_wp2
          go_roundw
          case rel => exact ⟨i + 1, k ++ X ++ [32] ++ [], by omega, by go_num, grow_str0 k X, by simp; omega, ⟨grow_ok HXW.out.1 HXW.out.2.1 HXW.out.2.2.1 (by simp) HK.out⟩, HB⟩
          case measure => simp [intOf] <;> omega
      · obtain rfl : N = i := by omega
        have hNN : ¬ (N : Int) < N := by omega
        have hkw : words k = WS := by
          have := HK.out []
          rw [List.append_nil, words_nil, List.append_nil, HL.out, List.take_length] at this
          exact this
        have hkl : k.length ≤ 100000 := by omega
        have hNn : (N : Int) = n + 1 := by have := HNN.out; omega
        clear hi hiN hk HK
        go_upto_region 20 with (go_at_call 9; (with_reducible refine (HPT.out k _ (hkw.trans HE.out) hkl).mono ?_); rintro e w9 ⟨ya, yc, rfl, hn, hb⟩; have HB9 := Box.mk (below_step HB.out hb); have HN9 := Box.mk hn; clear hb hn)
        obtain ⟨V9, B9, hV9, hB9, HX9, HBV9, HNV9⟩ := keep_blk HB9.out HN9.out (.cells #[strv nm, .slice ya n yc] 25)
        rw [← hV9, ← hB9]
        clear hV9 hB9 HB9 HN9 HB HPT HQ1 HF HV8
        have HW9 := Box.mk (below_step HB8.out HBV9.out)
        have HCC : Box (∀ w', Below V9.heap.size V9 w' → w'.cell? ⟨W.heap.size, 0, none⟩ = some (strv nm) ∧ w'.cell? ⟨W.heap.size, 1, none⟩ = some (.slice a n c) ∧ w'.cell? ⟨B', 0, none⟩ = some (strv nm) ∧ w'.cell? ⟨B', 1, none⟩ = some (.slice xa n xc) ∧ w'.cell? ⟨B9, 0, none⟩ = some (strv nm) ∧ w'.cell? ⟨B9, 1, none⟩ = some (.slice ya n yc)) := ⟨fun w' hb => by
          obtain ⟨u0, u1⟩ := HC.out w' (below_step HW9.out hb)
          have h5 := ((below_step HBV9.out hb).block B' (lt_blk HX3.out)).trans HX3.out
          have h6 := (hb.block B9 (lt_blk HX9.out)).trans HX9.out
          exact ⟨u0, u1, (cell_blk h5 0).trans rfl, (cell_blk h5 1).trans rfl, (cell_blk h6 0).trans rfl, (cell_blk h6 1).trans rfl⟩⟩
        have HNA := Box.mk (HN.out.later HW9.out)
        have HNX := Box.mk (HN8.out.later HBV9.out)
        obtain ⟨q0, q1, q2, q3, q4, q5⟩ := HCC.out V9 (Below.refl _ _)
        clear HC HN HN8 HX3 HX9 f0 f1 g0 g1
        go_wp2_with (first
          | (go_at_call 18; (with_reducible refine (rsame_call nm xa a n xc c z _ HNX.out HNA.out).mono ?_); rintro e w10 ⟨rfl, hb⟩; obtain ⟨r0, r1, r2, r3, r4, r5⟩ := HCC.out w10 hb; have HB10 := Box.mk hb; have HNA2 := Box.mk (HNA.out.later hb); have HNY2 := Box.mk (HNV9.out.later hb); clear hb)
          | (go_at_call 18; (with_reducible refine (rsame_call nm ya a n yc c z _ HNY2.out HNA2.out).mono ?_); rintro e w11 ⟨rfl, hb⟩; have HB11 := Box.mk (below_step HB10.out hb); obtain ⟨s0, s1, s2, s3, s4, s5⟩ := HCC.out w11 HB11.out; clear hb))
        go_ret
        exact ⟨by simp [hNn], below_step HB1.out (below_step HW9.out HB11.out)⟩

/-! The row's step. -/
theorem own : ownKnob Tryd.prog.godebug = none := by kernel_rfl
theorem laidOut : laidOutB Tryd.prog = true := by kernel_rfl

set_option maxRecDepth 100000 in
theorem lifted (os : Os) (started : os.Started) (H : Type) (enc : TypeId × Value → H) :
    ReturnsInHanded {} Tryd.checked os 4 .any (fun w args => (Rows.callTellsSpec.pre enc Tryd.prog Tryd.f4 [] false w args ∧ laidMetH Tryd.prog laids w) ∧ sizedMet enc Tryd.prog Tryd.f4 (OpenSpec.ofChange Rows.callTellsSpec) false w args) (Rows.callTellsSpec.post enc Tryd.prog Tryd.f4 false true false false) := by
  refine returnsInHanded_of_change_and (C := Tryd.checked) (X := fun w _ => laidMetH Tryd.prog laids w) (fun _ _ _ hh h => h.of_heap hh) own started (by kernel_rfl) Tryd.func4
    (ChangeSpec.witness_at (enc := enc) (C := Tryd.checked) (os := os) (X := fun w _ => laidMetH Tryd.prog laids w) false (laidWorld os) #[.agg #[.string ⟨#[]⟩, .slice none 0 0], .slice none 0 0] 8 rfl (by kernel_rfl) (by kernel_rfl) (by kernel_rfl) (by kernel_rfl) (by kernel_rfl) (laidWorld_met os _)) ?_
  intro W base args ds gs before hval0 hW hcnd _ hL _
  have hval : ∀ (j : Nat) t v, Tryd.f4.params[j]? = some t → args[j]? = some v → Value.okWide Tryd.prog W .any base t v := hval0
  have hW' := hW
  obtain ⟨p, q, hA0, hV, rfl, hfz, hnd⟩ := hW
  have hA : DataW.TrodAll enc Tryd.prog W 0 (fun _ => true) true Tryd.f4.params.toList args.toList ds p := hA0
  rw [Tryd.params4] at hA hval
  obtain ⟨v0, vs0, d0, ds0, p0, q0, hargs, rfl, rfl, h0, r0⟩ := trodAll_cons hA
  obtain ⟨v1, vs1, d1, ds1, p1, q1, rfl, rfl, rfl, h1, r1⟩ := trodAll_cons r0
  obtain ⟨rfl, rfl, rfl⟩ := trodAll_nil r1
  obtain rfl : args = #[v0, v1] := by cases args; simp_all
  obtain ⟨rfl, rfl⟩ := trodVars_none hV
  have k0 := h0
  have lt0 : ∀ x ∈ p0, x.block < W.heap.size := by obtain ⟨m, hm⟩ := k0; exact DataW.trod_lt m _ _ _ hm
  obtain ⟨x0, a0, len0, cap0, z0, rfl, s0, w0⟩ := open_call (e := 3) Tryd.underlying25 (by kernel_rfl) rfl (by kernel_rfl) (by kernel_rfl) rfl (by kernel_rfl) (by kernel_rfl) (by kernel_rfl) (by kernel_rfl) (hval 0 25 v0 rfl rfl) h0
  obtain ⟨a1, len1, cap1, rfl⟩ := okWide_slice Tryd.underlying36 (hval 1 36 v1 rfl rfl)
  have k1 := h1
  have lt1 : ∀ x ∈ p1, x.block < W.heap.size := by obtain ⟨m, hm⟩ := k1; exact DataW.trod_lt m _ _ _ hm
  obtain ⟨z1, w1⟩ : ∃ zs, ArgInts .u8 W a1 len1 zs := by
    obtain ⟨fuel, hf⟩ := h1
    rcases open_ints Tryd.underlying36 Tryd.underlying5 (by kernel_rfl) hf with ⟨hcs, _⟩ | ⟨x, l, c, zs, hcs, _, hl, hm, hz, _, hcell, hwz⟩
    · simp [Value.cells] at hcs
      obtain ⟨rfl, rfl, rfl⟩ := hcs
      exact ⟨[], rfl, by omega, by simp, fun h => by omega⟩
    · simp [Value.cells] at hcs
      obtain ⟨rfl, rfl, rfl⟩ := hcs
      exact ⟨zs.take len1, argInts_of_ints hl hm (by simpa using hz) hcell hwz⟩
  clear hA0 hval0
  refine (walk x0 a0 len0 cap0 z0 a1 len1 cap1 z1 W s0 w0 w1 (tab_of_laids hL)).mono fun e W' ⟨he, bel⟩ => ?_
  subst he
  exact ⟨_, rfl, _, _, _, [], _, [], hW', trodAll_mk1 (shut_bool Tryd.underlying4 _), (trodAll_cons_mk (Below.trod laidOut (by kernel_rfl) (of_decide_eq_true (by kernel_rfl)) k0 bel lt0) (trodAll_cons_mk (Below.trod laidOut (by kernel_rfl) (of_decide_eq_true (by kernel_rfl)) k1 bel lt1) trodAll_mk0)), rfl, bel.frame _, fun h => by cases h⟩

theorem over : Rows.callTellsRow.holds Tryd.pinned (OpenSpec.ofChange Rows.callTellsSpec) :=
  OpenClaim.holds_of_wide 4 Tryd.f4 rfl rfl rfl rfl rfl rfl rfl ⟨rfl, rfl, rfl, rfl, rfl⟩ rfl rfl rfl rfl rfl (by kernel_rfl) Tryd.func4 (by kernel_rfl)
    (of_decide_eq_true (by kernel_rfl)) (by unfold Func.isWrapper; first | (rw [if_pos (by decide +kernel)]; kernel_rfl) | (rw [if_neg (by decide +kernel)]; exact ⟨rfl, rfl⟩))
    (fun os started H enc _ => lifted os started H enc)

/-- The statement. -/
theorem proved : Rows.CallTellsCardSaid :=
  Claim7.holds_tied_plain_at .later [] [.data, .data, .data] true (true, "c1b01954ffc0753169e2318a28d598a11c4203c1182dc2c9381d645921c02716") true
    over (fun _ h => by cases h) (by kernel_rfl) (fun _ h => by cases h) callTells_row_tie rfl ⟨rfl, rfl⟩ (by kernel_rfl) rfl
    (fun f fn hf hfn => by
      obtain rfl : f = 4 := Option.some.inj ((show Tryd.prog.funcNamed "linchpin/linchpinlaw21.CallTells" = some 4 by kernel_rfl).symm.trans hf) |>.symm
      obtain rfl : fn = Tryd.f4 := (Option.some.inj (Tryd.func4.symm.trans hfn)).symm
      exact ⟨by kernel_rfl, fun j t ht => by
        rw [Tryd.params4] at ht
        rcases j with _ | j
        · obtain rfl : 25 = t := by simpa using ht
          exact (show Tryd.prog.wantsStandIn 25 = false by kernel_rfl)
        rcases j with _ | j
        · obtain rfl : 36 = t := by simpa using ht
          exact (show Tryd.prog.wantsStandIn 36 = false by kernel_rfl)
        simp at ht⟩)
    (by kernel_rfl)
#print axioms proved

end Go.Proofs.YtanlodaimbocoaaDoor.callTells
