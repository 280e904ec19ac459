/-
  The law of spoiled texts: a text with a byte turned is another record's, or none's.
-/
import Derived.Test.YtimeodjfihpgeaaDoorTrS
import Derived.Test.YtimeodjfihpgeaaDoorTrJ
import Derived.Test.YtimeodjfihpgeaaDoorTrV
import Derived.Test.YtimeodjfihpgeaaDoorStRx
import Derived.Test.YtimeodjfihpgeaaDoorTie
import Derived.Test.YtimeodjfihpgeaaDoorCards
import Derived.SevenTiedAt
import Derived.ChangeMaps5
import Derived.Deep.RegionLaw
import Derived.Lib.ConvBytes
import Derived.Laws.IdiomStrings
import Derived.Laws.Bits64
namespace Go.Proofs.YtimeodjfihpgeaaDoor.traceSpoiled
open Go Go.ChangeShapes Go.WideShapes Go.ChangeAt Go.RowKit Go.Proofs.YtimeodjfihpgeaaDoor

theorem text_small {t : Tk} {n1 n2 n3 n4 : Nat} (h : mayT t = true) (h1 : t.dn.length = n1) (h2 : t.ct.length = n2) (h3 : t.ms.length = n3) (h4 : t.fs.length = n4) (g1 : n1 ≤ 40) (g2 : n2 ≤ 40) (g3 : n3 ≤ 40) (g4 : n4 ≤ 40) : (textU t).length ≤ 4990 := by
  obtain ⟨m0, m1, m2, m3, m4⟩ := may_parts h
  have b1 := marks_len (m := [43]) (fun v hv => ⟨(rising_bounds (by omega) m1 v hv).1, by have := (rising_bounds (by omega) m1 v hv).2; omega⟩)
  have b2 := marks_len (m := [47]) (fun v hv => ⟨(rising_bounds (by omega) m2 v hv).1, by have := (rising_bounds (by omega) m2 v hv).2; omega⟩)
  have b3 := marks_len (m := [33]) (fun v hv => ⟨(rising_bounds (by omega) m3 v hv).1, by have := (rising_bounds (by omega) m3 v hv).2; omega⟩)
  have b4 : (fatesT t.fs).length ≤ 44 * t.fs.length := by
    generalize t.fs = l at m4
    clear h4
    induction l with
    | nil => simp [fatesT]
    | cons f l ih =>
      have hf := fate_bounds (m4 f (List.mem_cons_self ..))
      have ih := ih (fun g hg => m4 g (List.mem_cons_of_mem _ hg))
      have e1 : (Lib.itoa f.1).length ≤ 21 := Lib.itoa_length_le _ (by omega) (by omega)
      have e2 : (Lib.itoa f.2.2).length ≤ 21 := Lib.itoa_length_le _ (by omega) (by omega)
      rw [show fatesT (f :: l) = fateT f ++ fatesT l from by simp [fatesT], List.length_append, List.length_cons]
      unfold fateT
      simp only [List.length_append, List.length_cons]
      omega
  have b0 : (whoT t.who).length ≤ 22 := by
    have hw := who_three m0
    have hi := fun v : Int => Lib.itoa_length_le v
    unfold whoT
    split
    · have := hi (t.who - 100) (by omega) (by omega); simp; omega
    · split
      · have := hi t.who (by omega) (by omega); simp; omega
      · simp
  unfold textU
  simp only [List.length_append, List.length_cons, List.length_nil] at b1 b2 b3 b4 b0 ⊢
  rw [h1] at b1
  rw [h2] at b2
  rw [h3] at b3
  rw [h4] at b4
  omega
theorem bytes_below (w : World) (e : TypeId) (s : ByteArray) : Below w.heap.size w (Lib.bytesWorld w e s) := ⟨rfl, rfl, rfl, by rw [Lib.bytesWorld_size]; omega, fun k hk => Lib.bytesWorld_at_old w e s k hk⟩
theorem xor_eq (a b : UInt8) : a ^^^ b = a ↔ b = 0 := by
  constructor
  · intro h
    have : a ^^^ (a ^^^ b) = a ^^^ a := by rw [h]
    rwa [← UInt8.xor_assoc, UInt8.xor_self, UInt8.zero_xor] at this
  · rintro rfl
    exact UInt8.xor_zero
theorem bits_xor_u8 (a b : UInt8) : bits .xor .u8 (a.toNat : Int) (b.toNat : Int) = ((a ^^^ b).toNat : Int) := by
  have ha := a.toNat_lt
  have hb := b.toNat_lt
  have h1 : (BitVec.ofInt 8 (a.toNat : Int)).toNat = a.toNat := by
    rw [BitVec.ofInt_natCast, BitVec.toNat_ofNat]; exact Nat.mod_eq_of_lt (by omega)
  have h2 : (BitVec.ofInt 8 (b.toNat : Int)).toNat = b.toNat := by
    rw [BitVec.ofInt_natCast, BitVec.toNat_ofNat]; exact Nat.mod_eq_of_lt (by omega)
  show IntKind.u8.wrap ((BitVec.ofInt 8 (a.toNat : Int) ^^^ BitVec.ofInt 8 (b.toNat : Int)).toNat : Int) = _
  have hx : a.toNat ^^^ b.toNat < 2 ^ 8 := Nat.xor_lt_two_pow (by omega) (by omega)
  rw [BitVec.toNat_xor, h1, h2, UInt8.toNat_xor]
  simp [IntKind.wrap, IntKind.bits, IntKind.signed]
  omega
theorem tout_yes {s : Bs} {w w' : World} {e : Ending} {x : Tk} (h : TOut s w e w') (hm : mayT x = true) (he : textU x = s) : TYes x w e w' := by
  obtain ⟨hb, ⟨t', a1, n1, c1, a2, n2, c2, a3, n3, c3, a4, n4, c4, h1, h2, h3, h4⟩ | ⟨h1, _⟩⟩ := h
  · obtain rfl : t' = x := text_inj h1 hm (h2.trans he.symm)
    exact ⟨a1, n1, c1, a2, n2, c2, a3, n3, c3, a4, n4, c4, h3, h4, hb⟩
  · exact absurd he (h1 x hm)
def nilT : Tk := ⟨0, [], [], [], []⟩
theorem tout_no {s : Bs} {w w' : World} {e : Ending} (h : TOut s w e w') (hn : ∀ t, mayT t = true → textU t ≠ s) : e = .returned (.tuple #[.agg #[.int .i64 0, .slice none 0 0, .slice none 0 0, .slice none 0 0, .slice none 0 0], .int .i64 9]) ∧ Below w.heap.size w w' := by
  obtain ⟨hb, ⟨t', a1, n1, c1, a2, n2, c2, a3, n3, c3, a4, n4, c4, h1, h2, h3, h4⟩ | ⟨_, h1⟩⟩ := h
  · exact absurd h2 (hn t' h1)
  · exact ⟨h1, hb⟩
theorem u16_wf {z : Int} (h : (Lit.int .u16 z).wf = true) : 0 ≤ z ∧ z ≤ 65535 := by
  simp [Lit.wf, IntKind.min, IntKind.max, IntKind.signed, IntKind.bits] at h
  omega
theorem nil_at (w : World) : TkAt w nilT none 0 none 0 none 0 none 0 := ⟨⟨rfl, by decide, fun h => by omega⟩, ⟨rfl, by decide, fun h => by omega⟩, ⟨rfl, by decide, fun h => by omega⟩, ⟨rfl, by decide, fun h => by omega⟩⟩
theorem smallB_iff {n1 n2 n3 n4 : Nat} : smallB n1 n2 n3 n4 = true ↔ n1 ≤ 40 ∧ n2 ≤ 40 ∧ n3 ≤ 40 ∧ n4 ≤ 40 := by unfold smallB; simp

set_option maxHeartbeats 16000000 in
set_option maxRecDepth 100000 in
theorem walk (t : Tk) (a1 : Option Addr) (n1 c1 : Nat) (a2 : Option Addr) (n2 c2 : Nat) (a3 : Option Addr) (n3 c3 : Nat) (a4 : Option Addr) (n4 c4 : Nat) (at' : Int) (by' : Int) (W : World)
    (q0 : ArgTk W t a1 n1 a2 n2 a3 n3 a4 n4) (h0 : (Lit.int .u16 at').wf = true) (h1 : (Lit.int .u8 by').wf = true) (ht : Tab W) : Calls Tryd.prog 5 #[.agg #[.int .i64 t.who, .slice a1 n1 c1, .slice a2 n2 c2, .slice a3 n3 c3, .slice a4 n4 c4], .int .u16 at', .int .u8 by'] W fun e w' => e = .returned (.bool true) ∧ Below W.heap.size W w' := by
  have h0 : 0 ≤ at' ∧ at' ≤ 65535 := u16_wf h0
  have h1 : 0 ≤ by' ∧ by' ≤ 255 := u8_wf h1
  have HQ0 := Box.mk q0
  have HT := Box.mk ht
  have hbl : Below W.heap.size W (W.alloc (.cells #[.int .i64 t.who, .slice a1 n1 c1, .slice a2 n2 c2, .slice a3 n3 c3, .slice a4 n4 c4] 27)) := (Below.refl _ W).alloc (Nat.le_refl _) _
  have HB := Box.mk hbl
  have HX1 : Box ((W.alloc (.cells #[.int .i64 t.who, .slice a1 n1 c1, .slice a2 n2 c2, .slice a3 n3 c3, .slice a4 n4 c4] 27)).heap[W.heap.size]? = some (.cells #[.int .i64 t.who, .slice a1 n1 c1, .slice a2 n2 c2, .slice a3 n3 c3, .slice a4 n4 c4] 27 (0, 0))) := ⟨blk_new _ _⟩
  clear q0 ht
  go_enter Tryd.func5, Tryd.ntmps5
  go_upto_region 1 with fail
  generalize hV : W.alloc (.cells #[.int .i64 t.who, .slice a1 n1 c1, .slice a2 n2 c2, .slice a3 n3 c3, .slice a4 n4 c4] 27) = V at HB HX1 hbl ⊢
  have HVS : Box (V.heap.size = W.heap.size + 1) := ⟨by rw [← hV]; simp⟩
  clear hV hbl
  have HBW : Box (∀ w', Below V.heap.size V w' → Below W.heap.size W w') := ⟨fun w' hb => HB.out.trans (hb.mono (by have := HVS.out; omega))⟩
  have hVl : W.heap.size < V.heap.size := by have := HVS.out; omega
  have HC : Box (∀ w', Below V.heap.size V w' → w'.cell? ⟨W.heap.size, 0, none⟩ = some (.int .i64 t.who) ∧ w'.cell? ⟨W.heap.size, 1, none⟩ = some (.slice a1 n1 c1) ∧ w'.cell? ⟨W.heap.size, 2, none⟩ = some (.slice a2 n2 c2) ∧ w'.cell? ⟨W.heap.size, 3, none⟩ = some (.slice a3 n3 c3) ∧ w'.cell? ⟨W.heap.size, 4, none⟩ = some (.slice a4 n4 c4)) := ⟨fun w' hb => by
    have h5 := (hb.block _ (lt_blk HX1.out)).trans HX1.out
    exact ⟨(cell_blk h5 0).trans rfl, (cell_blk h5 1).trans rfl, (cell_blk h5 2).trans rfl, (cell_blk h5 3).trans rfl, (cell_blk h5 4).trans rfl⟩⟩
  have HA : Box (∀ w', Below V.heap.size V w' → Calls Tryd.prog 6 #[] w' fun e w'' => e = .returned (.bool true) ∧ Below w'.heap.size w' w'') := ⟨fun w' hb => awake25_any w' (HT.out.on (HBW.out _ hb))⟩
  have HS1 : Box (∀ w', Calls Tryd.prog 7 #[.agg #[.int .i64 t.who, .slice a1 n1 c1, .slice a2 n2 c2, .slice a3 n3 c3, .slice a4 n4 c4]] w' fun e w'' => e = .returned (.bool (smallB n1 n2 n3 n4)) ∧ Below w'.heap.size w' w'') := ⟨fun w' => small_any t.who a1 n1 c1 a2 n2 c2 a3 n3 c3 a4 n4 c4 w'⟩
  have HP1 : Box (smallB n1 n2 n3 n4 = true → n1 ≤ 40 ∧ n2 ≤ 40 ∧ n3 ≤ 40 ∧ n4 ≤ 40) := ⟨smallB_iff.1⟩
  generalize smallB n1 n2 n3 n4 = p1 at HS1 HP1
  clear HX1 HB HVS
  go_upto_region 3 with (go_at_call 6; (with_reducible refine (HA.out _ (Below.refl _ _)).mono ?_); rintro e w1 ⟨rfl, hb⟩; have HB1 := Box.mk hb; obtain ⟨e0, e1, e2, e3, e4⟩ := HC.out w1 hb; clear hb)
  clear HA
  cases p1 with
  | false =>
    go_wp2_with (go_at_call 7; (with_reducible refine (HS1.out _).mono ?_); rintro e w2 ⟨rfl, hb⟩; have HB2 := Box.mk (below_step HB1.out hb); obtain ⟨f0, f1, f2, f3, f4⟩ := HC.out w2 HB2.out; clear hb)
    go_ret
    exact ⟨rfl, HBW.out _ HB2.out⟩
  | true =>
    obtain ⟨j1, j2, j3, j4⟩ := HP1.out rfl
    have HK1 : Box (∀ w', Below V.heap.size V w' → TkAt w' t a1 n1 a2 n2 a3 n3 a4 n4) := ⟨fun w' hb => (HQ0.out.at j1 j2 j3 j4).later (HBW.out _ hb)⟩
    have HTB : Box (∀ w', Below V.heap.size V w' → Tab w') := ⟨fun w' hb => HT.out.on (HBW.out _ hb)⟩
    obtain ⟨m, HMM⟩ : ∃ m, Box (m = mayT t) := ⟨_, ⟨rfl⟩⟩
    have HM1 : Box (∀ w', Below V.heap.size V w' → Calls Tryd.prog 11 #[.agg #[.int .i64 t.who, .slice a1 n1 c1, .slice a2 n2 c2, .slice a3 n3 c3, .slice a4 n4 c4]] w' fun e w'' => e = .returned (.bool m) ∧ Below w'.heap.size w' w'') := ⟨fun w' hb => by rw [HMM.out]; exact trmay_any t a1 n1 c1 a2 n2 c2 a3 n3 c3 a4 n4 c4 w' (HK1.out w' hb)⟩
    cases m with
    | false =>
      go_wp2_with (first
        | (go_at_call 7; (with_reducible refine (HS1.out _).mono ?_); rintro e w2 ⟨rfl, hb⟩; have HB2 := Box.mk (below_step HB1.out hb); obtain ⟨f0, f1, f2, f3, f4⟩ := HC.out w2 HB2.out; clear hb)
        | (go_at_call 11; (with_reducible refine (HM1.out _ HB2.out).mono ?_); rintro e w3 ⟨rfl, hb⟩; have HB3 := Box.mk (below_step HB2.out hb); obtain ⟨g0, g1, g2, g3, g4⟩ := HC.out w3 HB3.out; clear hb))
      go_ret
      exact ⟨rfl, HBW.out _ HB3.out⟩
    | true =>
      have hmt : mayT t = true := HMM.out.symm
      have HMT := Box.mk hmt
      obtain ⟨A, HA⟩ : ∃ A, Box (A = textU t) := ⟨_, ⟨rfl⟩⟩
      have HT1 : Box (∀ w', Below V.heap.size V w' → Calls Tryd.prog 8 #[.agg #[.int .i64 t.who, .slice a1 n1 c1, .slice a2 n2 c2, .slice a3 n3 c3, .slice a4 n4 c4]] w' fun e w'' => e = .returned (strv A) ∧ Below w'.heap.size w' w'') := ⟨fun w' hb => by
        have := ttext_any t a1 n1 c1 a2 n2 c2 a3 n3 c3 a4 n4 c4 w' (HK1.out w' hb) (HTB.out w' hb) (by omega) (by omega) (by omega) (by omega)
        unfold textT at this
        rw [if_pos hmt, ← HA.out] at this
        exact this⟩
      have hAl : A.length ≤ 4990 := by
        have hk := HK1.out V (Below.refl _ _)
        rw [HA.out]
        exact text_small hmt hk.dn.1 hk.ct.1 hk.ms.1 hk.fs.1 j1 j2 j3 j4
      have hA0 : 0 < A.length := by
        rw [HA.out]
        exact List.length_pos_iff.2 text_ne
      clear hmt
      go_upto_region 8 with (first
        | (go_at_call 7; (with_reducible refine (HS1.out _).mono ?_); rintro e w2 ⟨rfl, hb⟩; have HB2 := Box.mk (below_step HB1.out hb); obtain ⟨f0, f1, f2, f3, f4⟩ := HC.out w2 HB2.out; clear hb)
        | (go_at_call 11; (with_reducible refine (HM1.out _ HB2.out).mono ?_); rintro e w3 ⟨rfl, hb⟩; have HB3 := Box.mk (below_step HB2.out hb); obtain ⟨g0, g1, g2, g3, g4⟩ := HC.out w3 HB3.out; clear hb)
        | (go_at_call 8; (with_reducible refine (HT1.out _ HB3.out).mono ?_); rintro e w4 ⟨rfl, hb⟩; have HB4 := Box.mk (below_step HB3.out hb); have hcv := Lib.run_convert_string_bytes (P := Tryd.prog) w4 9 38 5 ⟨A.toArray⟩ Tryd.underlying9 Tryd.underlying38 Tryd.underlying5; clear hb))
      obtain ⟨k, rfl⟩ : ∃ k : Nat, at' = k := ⟨at'.toNat, by omega⟩
      obtain ⟨y, hy, rfl⟩ : ∃ y : UInt8, y.toNat < 256 ∧ by' = (y.toNat : Int) := ⟨UInt8.ofNat by'.toNat, UInt8.toNat_lt _, by rw [UInt8.toNat_ofNat_of_lt' (by show by'.toNat < 256; omega)]; omega⟩
      obtain ⟨i, hi⟩ : ∃ i, i = k % A.length := ⟨_, rfl⟩
      have hil : i < A.length := by rw [hi]; exact Nat.mod_lt _ hA0
      have hrm : ((k : Int).tmod A.length) = (i : Int) := by rw [hi]; rfl
      have hAZ : ¬ (A.length : Int) = 0 := by omega
      have HB5 := Box.mk (below_step HB4.out (bytes_below w4 5 ⟨A.toArray⟩))
      have hnew := Lib.bytesWorld_at_new w4 5 ⟨A.toArray⟩
      have hcell := fun j (hj : j < (⟨A.toArray⟩ : ByteArray).size) => Lib.bytesWorld_cell w4 5 ⟨A.toArray⟩ j hj
      have hV4 : V.heap.size ≤ w4.heap.size := HB4.out.size
      clear hcv hi
      generalize Lib.bytesWorld w4 5 ⟨A.toArray⟩ = V5 at HB5 hnew hcell ⊢
      generalize w4.heap.size = BB at hnew hcell hV4 ⊢
      go_upto_region 9 with fail
      have hcs : (Lib.bytesCells w4 5 ⟨A.toArray⟩).size = A.length + (grownCap w4 A.length 0 5 - A.length) := by
        unfold Lib.bytesCells
        rw [Array.size_append, Array.size_map, Array.size_replicate, bts_size]
        rfl
      have z0 : V5.cell? ⟨BB, i, none⟩ = some (.int .u8 ((A[i]'hil).toNat : Int)) := by
        rw [hcell i (by rw [bts_size]; exact hil)]
        congr 3
        show (A.getD i 0).toNat = _
        rw [List.getD_eq_getElem?_getD, List.getElem?_eq_getElem hil]
        rfl
      have f0 : V5.frozen? ⟨BB, i, none⟩ = false := by
        unfold World.frozen?
        rw [hnew]
        simp only [hcs]
        simp
        omega
      have HCE : Box (∀ j (hj : j < A.length), V5.cell? ⟨BB, j, none⟩ = some (.int .u8 ((A[j]'hj).toNat : Int))) := ⟨fun j hj => by
        rw [hcell j (by rw [bts_size]; exact hj)]
        congr 3
        show (A.getD j 0).toNat = _
        rw [List.getD_eq_getElem?_getD, List.getElem?_eq_getElem hj]
        rfl⟩
      have HNW := Box.mk hnew
      have hii : (i : Int) < A.length := by omega
      have hi0 : (0 : Int) ≤ i := by omega
      clear hnew hcell
      obtain ⟨c, hc⟩ : ∃ c, A[i]'hil = c := ⟨_, rfl⟩
      rw [hc] at z0
      go_upto_region 10 with fail
      rw [bits_xor_u8]
      obtain ⟨A', hA'⟩ : ∃ A' : Bs, A' = A.set i (c ^^^ y) := ⟨_, rfl⟩
      have hAl' : A'.length = A.length := by rw [hA']; simp
      have HB6 : Box (Below V.heap.size V (World.setCell V5 ⟨BB, i, none⟩ (.int .u8 ((c ^^^ y).toNat : Int)))) := ⟨HB5.out.trans ((Fr.setCell (F := fun k => k = BB) (Fr.refl _ V5) (p := ⟨BB, i, none⟩) (.inl rfl) _).below HB5.out.size (fun k _ e => by omega))⟩
      have HCE6 : ∀ j (hj : j < A'.length), (World.setCell V5 ⟨BB, i, none⟩ (.int .u8 ((c ^^^ y).toNat : Int))).cell? ((⟨BB, 0, none⟩ : Addr).add j) = some (.int .u8 ((A'[j]'hj).toNat : Int)) := fun j hj => by
        rw [show (⟨BB, 0, none⟩ : Addr).add j = ⟨BB, j, none⟩ from by unfold Addr.add; split <;> simp_all]
        by_cases e : j = i
        · subst e
          rw [World.cell?_setCell_same _ _ _ z0]
          congr 3
          simp [hA']
        · rw [World.cell?_setCell_other _ ⟨BB, i, none⟩ ⟨BB, j, none⟩ _ (fun h => by injection h with _ h _; exact e h.symm), HCE.out j (by omega)]
          congr 3
          simp [hA', List.getElem_set, Ne.symm e]
      have hcb0 := fun cap => run_convert_bytes_back (P := Tryd.prog) _ 38 9 5 ⟨BB, 0, none⟩ cap A' Tryd.underlying38 Tryd.underlying5 Tryd.underlying9 HCE6
      rw [hAl'] at hcb0
      have hcb := hcb0 (grownCap w4 A.length 0 5)
      have HCV : Box (∀ w', Below (World.setCell V5 ⟨BB, i, none⟩ (.int .u8 ((c ^^^ y).toNat : Int))).heap.size (World.setCell V5 ⟨BB, i, none⟩ (.int .u8 ((c ^^^ y).toNat : Int))) w' → (convert 38 9 (.slice (some ⟨BB, 0, none⟩) A.length (grownCap w4 A.length 0 5))).run Tryd.prog w' = .ok (.string ⟨A'.toArray⟩) w') := ⟨fun w' hb => by
        have := run_convert_bytes_back (P := Tryd.prog) w' 38 9 5 ⟨BB, 0, none⟩ (grownCap w4 A.length 0 5) A' Tryd.underlying38 Tryd.underlying5 Tryd.underlying9 (fun j hj => (hb.cell (p := (⟨BB, 0, none⟩ : Addr).add j) (World.block_lt_of_cell? _ _ (HCE6 j hj))).trans (HCE6 j hj))
        rwa [hAl'] at this⟩
      have hyc : (y = 0 ∧ A' = A) ∨ (y ≠ 0 ∧ A' ≠ A) := by
        by_cases e : y = 0
        · refine .inl ⟨e, ?_⟩
          rw [hA', e, ← hc, UInt8.xor_zero, List.set_getElem_self]
        · refine .inr ⟨e, fun h => e ((xor_eq c y).1 ?_)⟩
          have h2 : A'[i]'(by omega) = A[i]'hil := by simp only [h]
          rw [hc] at h2
          have h3 : A'[i]'(by omega) = c ^^^ y := by simp [hA']
          exact h3.symm.trans h2
      have hsz' : (⟨A'.toArray⟩ : ByteArray).size ≤ 4990 := by rw [bts_size]; show A'.length ≤ 4990; omega
      have HPA : Box (∀ w', Below V.heap.size V w' → Calls Tryd.prog 12 #[.string ⟨A'.toArray⟩] w' fun e w'' => TOut A' w' e w'') := ⟨fun w' hb => tparse_any ⟨A'.toArray⟩ hsz' w' (HTB.out w' hb)⟩
      have HRA : Box (∀ w', Calls Tryd.prog 14 #[.string ⟨A'.toArray⟩] w' fun e w'' => TOut A' w' e w'') := ⟨fun w' => rparse25_any ⟨A'.toArray⟩ hsz' w'⟩
      have HCB := Box.mk hcb
      have hV6 : V.heap.size ≤ (World.setCell V5 ⟨BB, i, none⟩ (.int .u8 ((c ^^^ y).toNat : Int))).heap.size := HB6.out.size
      have HAA := HA
      clear HCE6 hcb hcb0 z0 f0 HCE HNW hcs HB1 HB2 HB3 HB4 HB5 hA' hAl' hc hsz' HTB HS1 HM1 HT1 hrm
      generalize World.setCell V5 ⟨BB, i, none⟩ (.int .u8 ((c ^^^ y).toNat : Int)) = V6 at HB6 HCB HCV hV6 ⊢
      clear V5 hil hii
      by_cases hx : ∃ x, mayT x = true ∧ textU x = A'
      · obtain ⟨x, hx1, hx2⟩ := hx
        have hdd : ∃ d : Bool, Box (sameB x t = d) ∧ ((((y.toNat : Int) == 0) = true ∧ d = true) ∨ (((y.toNat : Int) == 0) = false ∧ d = false)) := by
          rcases hyc with ⟨e1, e2⟩ | ⟨e1, e2⟩
          · refine ⟨true, ⟨(sameB_iff x t).2 (text_inj hx1 HMT.out (by rw [hx2, e2]; exact HAA.out))⟩, .inl ⟨by rw [e1]; rfl, rfl⟩⟩
          · refine ⟨false, ⟨?_⟩, .inr ⟨beq_eq_false_iff_ne.2 (fun e => e1 (UInt8.toNat_inj.1 (by show y.toNat = 0; omega))), rfl⟩⟩
            cases hd : sameB x t with
            | false => rfl
            | true =>
              have := (sameB_iff x t).1 hd
              subst this
              exact absurd (hx2.symm.trans HAA.out.symm) e2
        obtain ⟨d, HD, hdd⟩ := hdd
        have HP2 : Box (∀ w', Below V.heap.size V w' → Calls Tryd.prog 12 #[.string ⟨A'.toArray⟩] w' fun e w'' => TYes x w' e w'') := ⟨fun w' hb => (HPA.out w' hb).mono fun e w'' h => tout_yes h hx1 hx2⟩
        have HR2 : Box (∀ w', Calls Tryd.prog 14 #[.string ⟨A'.toArray⟩] w' fun e w'' => TYes x w' e w'') := ⟨fun w' => (HRA.out w').mono fun e w'' h => tout_yes h hx1 hx2⟩
        have HXX : Box (sameB x x = true) := ⟨(sameB_iff x x).2 rfl⟩
        clear hyc HPA HRA hx1 hx2
        have hcb := HCB.out
        go_upto_region 11 with (go_at_call 12; (with_reducible refine (HP2.out _ HB6.out).mono ?_); rintro e w7 ⟨b1, m1, d1, b2, m2, d2, b3, m3, d3, b4, m4, d4, rfl, hk, hb⟩; have HB7 := Box.mk (below_step HB6.out hb); have HD7 := Box.mk hb; have HK7 := Box.mk hk; clear hb hk)
        have hb8 : Below (World.heap w7).size w7 (World.alloc w7 (.cells #[.int .i64 x.who, .slice b1 m1 d1, .slice b2 m2 d2, .slice b3 m3 d3, .slice b4 m4 d4] 27)) := (Below.refl _ _).alloc (Nat.le_refl _) _
        have HX8 : Box ((World.alloc w7 (.cells #[.int .i64 x.who, .slice b1 m1 d1, .slice b2 m2 d2, .slice b3 m3 d3, .slice b4 m4 d4] 27)).heap[(World.heap w7).size]? = some (.cells #[.int .i64 x.who, .slice b1 m1 d1, .slice b2 m2 d2, .slice b3 m3 d3, .slice b4 m4 d4] 27 (0, 0))) := ⟨blk_new _ _⟩
        have HB8 := Box.mk (below_step HB7.out hb8)
        have HK8 := Box.mk (HK7.out.later hb8)
        have hcb8 := HCV.out (World.alloc w7 (.cells #[.int .i64 x.who, .slice b1 m1 d1, .slice b2 m2 d2, .slice b3 m3 d3, .slice b4 m4 d4] 27)) (below_step HD7.out hb8)
        clear hb8 hcb
        generalize World.alloc w7 (.cells #[.int .i64 x.who, .slice b1 m1 d1, .slice b2 m2 d2, .slice b3 m3 d3, .slice b4 m4 d4] 27) = V8 at HX8 HB8 HK8 hcb8 ⊢
        generalize (World.heap w7).size = XB at HX8 ⊢
        go_upto_region 12 with (go_at_call 14; (with_reducible refine (HR2.out _).mono ?_); rintro e w9 ⟨x1, k1, y1, x2, k2, y2, x3, k3, y3, x4, k4, y4, rfl, hk, hb⟩; have HB9 := Box.mk (below_step HB8.out hb); have HX9 := Box.mk ((hb.block XB (lt_blk HX8.out)).trans HX8.out); have HK9 := Box.mk (HK8.out.later hb); have HJ9 := Box.mk hk; clear hb hk)
        have hbA : Below (World.heap w9).size w9 (World.alloc w9 (.cells #[.int .i64 x.who, .slice x1 k1 y1, .slice x2 k2 y2, .slice x3 k3 y3, .slice x4 k4 y4] 27)) := (Below.refl _ _).alloc (Nat.le_refl _) _
        have HXA : Box ((World.alloc w9 (.cells #[.int .i64 x.who, .slice x1 k1 y1, .slice x2 k2 y2, .slice x3 k3 y3, .slice x4 k4 y4] 27)).heap[(World.heap w9).size]? = some (.cells #[.int .i64 x.who, .slice x1 k1 y1, .slice x2 k2 y2, .slice x3 k3 y3, .slice x4 k4 y4] 27 (0, 0))) := ⟨blk_new _ _⟩
        have HBA := Box.mk (below_step HB9.out hbA)
        have HXB := Box.mk ((hbA.block XB (lt_blk HX9.out)).trans HX9.out)
        have HKA := Box.mk (HK9.out.later hbA)
        have HJA := Box.mk (HJ9.out.later hbA)
        clear hbA hcb8
        generalize World.alloc w9 (.cells #[.int .i64 x.who, .slice x1 k1 y1, .slice x2 k2 y2, .slice x3 k3 y3, .slice x4 k4 y4] 27) = VA at HXA HXB HBA HKA HJA ⊢
        generalize (World.heap w9).size = YB at HXA ⊢
        have p0 : World.cell? VA ⟨XB, 0, none⟩ = some (.int .i64 x.who) := (cell_blk HXB.out 0).trans rfl
        have p1 : World.cell? VA ⟨XB, 1, none⟩ = some (.slice b1 m1 d1) := (cell_blk HXB.out 1).trans rfl
        have p2 : World.cell? VA ⟨XB, 2, none⟩ = some (.slice b2 m2 d2) := (cell_blk HXB.out 2).trans rfl
        have p3 : World.cell? VA ⟨XB, 3, none⟩ = some (.slice b3 m3 d3) := (cell_blk HXB.out 3).trans rfl
        have p4 : World.cell? VA ⟨XB, 4, none⟩ = some (.slice b4 m4 d4) := (cell_blk HXB.out 4).trans rfl
        have q0 : World.cell? VA ⟨YB, 0, none⟩ = some (.int .i64 x.who) := (cell_blk HXA.out 0).trans rfl
        have q1 : World.cell? VA ⟨YB, 1, none⟩ = some (.slice x1 k1 y1) := (cell_blk HXA.out 1).trans rfl
        have q2 : World.cell? VA ⟨YB, 2, none⟩ = some (.slice x2 k2 y2) := (cell_blk HXA.out 2).trans rfl
        have q3 : World.cell? VA ⟨YB, 3, none⟩ = some (.slice x3 k3 y3) := (cell_blk HXA.out 3).trans rfl
        have q4 : World.cell? VA ⟨YB, 4, none⟩ = some (.slice x4 k4 y4) := (cell_blk HXA.out 4).trans rfl
        obtain ⟨r0, r1, r2, r3, r4⟩ := HC.out VA HBA.out
        have HQ1 : Box (Calls Tryd.prog 13 #[.agg #[.int .i64 x.who, .slice b1 m1 d1, .slice b2 m2 d2, .slice b3 m3 d3, .slice b4 m4 d4], .agg #[.int .i64 x.who, .slice x1 k1 y1, .slice x2 k2 y2, .slice x3 k3 y3, .slice x4 k4 y4]] VA fun e w' => e = .returned (.bool true) ∧ Below VA.heap.size VA w') := ⟨by
          have := tsame_any x b1 m1 d1 b2 m2 d2 b3 m3 d3 b4 m4 d4 x x1 k1 y1 x2 k2 y2 x3 k3 y3 x4 k4 y4 VA HKA.out HJA.out
          rwa [HXX.out] at this⟩
        have HQ2 : Box (∀ w', Below VA.heap.size VA w' → Calls Tryd.prog 13 #[.agg #[.int .i64 x.who, .slice b1 m1 d1, .slice b2 m2 d2, .slice b3 m3 d3, .slice b4 m4 d4], .agg #[.int .i64 t.who, .slice a1 n1 c1, .slice a2 n2 c2, .slice a3 n3 c3, .slice a4 n4 c4]] w' fun e w'' => e = .returned (.bool d) ∧ Below w'.heap.size w' w'') := ⟨fun w' hb => by
          have := tsame_any x b1 m1 d1 b2 m2 d2 b3 m3 d3 b4 m4 d4 t a1 n1 c1 a2 n2 c2 a3 n3 c3 a4 n4 c4 w' (HKA.out.later hb) (HK1.out w' (below_step HBA.out hb))
          rwa [HD.out] at this⟩
        clear HD HXX HP2 HR2 HCB HCV HK7 HK8 HK9 HJ9 HKA HJA HK1
        rcases hdd with ⟨hyb, rfl⟩ | ⟨hyb, rfl⟩
        all_goals
          go_wp2_with (first
            | (go_at_call 13; (with_reducible refine HQ1.out.mono ?_); rintro e wB ⟨rfl, hb⟩; have HBB := Box.mk hb; have HBX := Box.mk (hb.block XB (lt_blk HXB.out) |>.trans HXB.out); have s0' : World.cell? wB ⟨XB, 0, none⟩ = some (.int .i64 x.who) := (cell_blk HBX.out 0).trans rfl; have s1' : World.cell? wB ⟨XB, 1, none⟩ = some (.slice b1 m1 d1) := (cell_blk HBX.out 1).trans rfl; have s2' : World.cell? wB ⟨XB, 2, none⟩ = some (.slice b2 m2 d2) := (cell_blk HBX.out 2).trans rfl; have s3' : World.cell? wB ⟨XB, 3, none⟩ = some (.slice b3 m3 d3) := (cell_blk HBX.out 3).trans rfl; have s4' : World.cell? wB ⟨XB, 4, none⟩ = some (.slice b4 m4 d4) := (cell_blk HBX.out 4).trans rfl; obtain ⟨s0, s1, s2, s3, s4⟩ := HC.out wB (below_step HBA.out hb); clear hb)
            | (go_at_call 13; (with_reducible refine (HQ2.out _ HBB.out).mono ?_); rintro e wC ⟨rfl, hb⟩; have HBC := Box.mk (below_step (below_step HBA.out HBB.out) hb); clear hb))
          go_ret
          exact ⟨by first | rfl | simp, HBW.out _ HBC.out⟩
      · have HNO : ∀ t, mayT t = true → textU t ≠ A' := fun x h1 h2 => hx ⟨x, h1, h2⟩
        have hyb : ((y.toNat : Int) == 0) = false := by
          rcases hyc with ⟨e1, e2⟩ | ⟨e1, e2⟩
          · exact absurd (by rw [e2]; exact HAA.out.symm) (HNO t HMT.out)
          · exact beq_eq_false_iff_ne.2 (fun e => e1 (UInt8.toNat_inj.1 (by show y.toNat = 0; omega)))
        have HP2 : Box (∀ w', Below V.heap.size V w' → Calls Tryd.prog 12 #[.string ⟨A'.toArray⟩] w' fun e w'' => e = .returned (.tuple #[.agg #[.int .i64 0, .slice none 0 0, .slice none 0 0, .slice none 0 0, .slice none 0 0], .int .i64 9]) ∧ Below w'.heap.size w' w'') := ⟨fun w' hb => (HPA.out w' hb).mono fun e w'' h => tout_no h HNO⟩
        have HR2 : Box (∀ w', Calls Tryd.prog 14 #[.string ⟨A'.toArray⟩] w' fun e w'' => e = .returned (.tuple #[.agg #[.int .i64 0, .slice none 0 0, .slice none 0 0, .slice none 0 0, .slice none 0 0], .int .i64 9]) ∧ Below w'.heap.size w' w'') := ⟨fun w' => (HRA.out w').mono fun e w'' h => tout_no h HNO⟩
        clear hyc HPA HRA hx HNO
        have hcb := HCB.out
        go_upto_region 11 with (go_at_call 12; (with_reducible refine (HP2.out _ HB6.out).mono ?_); rintro e w7 ⟨rfl, hb⟩; have HB7 := Box.mk (below_step HB6.out hb); have HD7 := Box.mk hb; clear hb)
        have hb8 : Below (World.heap w7).size w7 (World.alloc w7 (.cells #[.int .i64 0, .slice none 0 0, .slice none 0 0, .slice none 0 0, .slice none 0 0] 27)) := (Below.refl _ _).alloc (Nat.le_refl _) _
        have HX8 : Box ((World.alloc w7 (.cells #[.int .i64 0, .slice none 0 0, .slice none 0 0, .slice none 0 0, .slice none 0 0] 27)).heap[(World.heap w7).size]? = some (.cells #[.int .i64 0, .slice none 0 0, .slice none 0 0, .slice none 0 0, .slice none 0 0] 27 (0, 0))) := ⟨blk_new _ _⟩
        have HB8 := Box.mk (below_step HB7.out hb8)
        have hcb8 := HCV.out (World.alloc w7 (.cells #[.int .i64 0, .slice none 0 0, .slice none 0 0, .slice none 0 0, .slice none 0 0] 27)) (below_step HD7.out hb8)
        clear hb8 hcb
        generalize World.alloc w7 (.cells #[.int .i64 0, .slice none 0 0, .slice none 0 0, .slice none 0 0, .slice none 0 0] 27) = V8 at HX8 HB8 hcb8 ⊢
        generalize (World.heap w7).size = XB at HX8 ⊢
        go_upto_region 12 with (go_at_call 14; (with_reducible refine (HR2.out _).mono ?_); rintro e w9 ⟨rfl, hb⟩; have HB9 := Box.mk (below_step HB8.out hb); have HX9 := Box.mk ((hb.block XB (lt_blk HX8.out)).trans HX8.out); clear hb)
        have hbA : Below (World.heap w9).size w9 (World.alloc w9 (.cells #[.int .i64 0, .slice none 0 0, .slice none 0 0, .slice none 0 0, .slice none 0 0] 27)) := (Below.refl _ _).alloc (Nat.le_refl _) _
        have HXA : Box ((World.alloc w9 (.cells #[.int .i64 0, .slice none 0 0, .slice none 0 0, .slice none 0 0, .slice none 0 0] 27)).heap[(World.heap w9).size]? = some (.cells #[.int .i64 0, .slice none 0 0, .slice none 0 0, .slice none 0 0, .slice none 0 0] 27 (0, 0))) := ⟨blk_new _ _⟩
        have HBA := Box.mk (below_step HB9.out hbA)
        have HXB := Box.mk ((hbA.block XB (lt_blk HX9.out)).trans HX9.out)
        clear hbA hcb8
        generalize World.alloc w9 (.cells #[.int .i64 0, .slice none 0 0, .slice none 0 0, .slice none 0 0, .slice none 0 0] 27) = VA at HXA HXB HBA ⊢
        generalize (World.heap w9).size = YB at HXA ⊢
        have p0 : World.cell? VA ⟨XB, 0, none⟩ = some (.int .i64 0) := (cell_blk HXB.out 0).trans rfl
        have p1 : World.cell? VA ⟨XB, 1, none⟩ = some (.slice none 0 0) := (cell_blk HXB.out 1).trans rfl
        have p2 : World.cell? VA ⟨XB, 2, none⟩ = some (.slice none 0 0) := (cell_blk HXB.out 2).trans rfl
        have p3 : World.cell? VA ⟨XB, 3, none⟩ = some (.slice none 0 0) := (cell_blk HXB.out 3).trans rfl
        have p4 : World.cell? VA ⟨XB, 4, none⟩ = some (.slice none 0 0) := (cell_blk HXB.out 4).trans rfl
        have q0 : World.cell? VA ⟨YB, 0, none⟩ = some (.int .i64 0) := (cell_blk HXA.out 0).trans rfl
        have q1 : World.cell? VA ⟨YB, 1, none⟩ = some (.slice none 0 0) := (cell_blk HXA.out 1).trans rfl
        have q2 : World.cell? VA ⟨YB, 2, none⟩ = some (.slice none 0 0) := (cell_blk HXA.out 2).trans rfl
        have q3 : World.cell? VA ⟨YB, 3, none⟩ = some (.slice none 0 0) := (cell_blk HXA.out 3).trans rfl
        have q4 : World.cell? VA ⟨YB, 4, none⟩ = some (.slice none 0 0) := (cell_blk HXA.out 4).trans rfl
        obtain ⟨r0, r1, r2, r3, r4⟩ := HC.out VA HBA.out
        have HQ1 : Box (Calls Tryd.prog 13 #[.agg #[.int .i64 0, .slice none 0 0, .slice none 0 0, .slice none 0 0, .slice none 0 0], .agg #[.int .i64 0, .slice none 0 0, .slice none 0 0, .slice none 0 0, .slice none 0 0]] VA fun e w' => e = .returned (.bool true) ∧ Below VA.heap.size VA w') := ⟨by
          have := tsame_any nilT none 0 0 none 0 0 none 0 0 none 0 0 nilT none 0 0 none 0 0 none 0 0 none 0 0 VA (nil_at _) (nil_at _)
          rwa [(sameB_iff nilT nilT).2 rfl] at this⟩
        clear HP2 HR2 HCB HCV HK1
        go_wp2_with (go_at_call 13; (with_reducible refine HQ1.out.mono ?_); rintro e wB ⟨rfl, hb⟩; have HBB := Box.mk (below_step HBA.out hb); clear hb)
        go_ret
        exact ⟨by first | rfl | simp, HBW.out _ HBB.out⟩


/-! The row's step. -/
theorem own : ownKnob Tryd.prog.godebug = none := by kernel_rfl
theorem laidOut : laidOutB Tryd.prog = true := by kernel_rfl

set_option maxRecDepth 100000 in
theorem lifted (os : Os) (started : os.Started) (H : Type) (enc : TypeId × Value → H) :
    ReturnsInHanded {} Tryd.checked os 5 .any (fun w args => (Rows.traceSpoiledSpec.pre enc Tryd.prog Tryd.f5 [] false w args ∧ laidMetH Tryd.prog laids w) ∧ sizedMet enc Tryd.prog Tryd.f5 (OpenSpec.ofChange Rows.traceSpoiledSpec) false w args) (Rows.traceSpoiledSpec.post enc Tryd.prog Tryd.f5 false true false false) := by
  refine returnsInHanded_of_change_and (C := Tryd.checked) (X := fun w _ => laidMetH Tryd.prog laids w) (fun _ _ _ hh h => h.of_heap hh) own started (by kernel_rfl) Tryd.func5
    (ChangeSpec.witness_at (enc := enc) (C := Tryd.checked) (os := os) (X := fun w _ => laidMetH Tryd.prog laids w) false (laidWorld os) #[.agg #[.int .i64 0, .slice none 0 0, .slice none 0 0, .slice none 0 0, .slice none 0 0], .int .u16 0, .int .u8 0] 8 rfl (by kernel_rfl) (by kernel_rfl) (by kernel_rfl) (by kernel_rfl) (by kernel_rfl) (laidWorld_met os _)) ?_
  intro W base args ds gs before hval0 hW hcnd _ hL _
  have hval : ∀ (j : Nat) t v, Tryd.f5.params[j]? = some t → args[j]? = some v → Value.okWide Tryd.prog W .any base t v := hval0
  have hW' := hW
  obtain ⟨p, q, hA0, hV, rfl, hfz, hnd⟩ := hW
  have hA : DataW.TrodAll enc Tryd.prog W 0 (fun _ => true) true Tryd.f5.params.toList args.toList ds p := hA0
  rw [Tryd.params5] at hA hval
  obtain ⟨v0, vs0, d0, ds0, p0, q0, hargs, rfl, rfl, h0, r0⟩ := trodAll_cons hA
  obtain ⟨v1, vs1, d1, ds1, p1, q1, rfl, rfl, rfl, h1, r1⟩ := trodAll_cons r0
  obtain ⟨v2, vs2, d2, ds2, p2, q2, rfl, rfl, rfl, h2, r2⟩ := trodAll_cons r1
  obtain ⟨rfl, rfl, rfl⟩ := trodAll_nil r2
  obtain rfl : args = #[v0, v1, v2] := by cases args; simp_all
  obtain ⟨rfl, rfl⟩ := trodVars_none hV
  have k0 := h0
  have lt0 : ∀ x ∈ p0, x.block < W.heap.size := by obtain ⟨m, hm⟩ := k0; exact DataW.trod_lt m _ _ _ hm
  obtain ⟨t0, e01, n01, c01, e02, n02, c02, e03, n03, c03, e04, n04, c04, rfl, w0⟩ := open_tock Tryd.underlying27 (by kernel_rfl) rfl (by kernel_rfl) Tryd.underlying24 rfl (by kernel_rfl) Tryd.underlying25 ⟨rfl, by kernel_rfl, Tryd.underlying3⟩ ⟨rfl, by kernel_rfl, Tryd.underlying22⟩ ⟨rfl, by kernel_rfl, Tryd.underlying22⟩ ⟨rfl, by kernel_rfl, Tryd.underlying22⟩ Tryd.underlying3 (by kernel_rfl) Tryd.underlying36 (by kernel_rfl) (by kernel_rfl) (by kernel_rfl) (hval 0 27 v0 rfl rfl) h0
  obtain ⟨x1, rfl, rfl, rfl, w1⟩ := open_int Tryd.underlying37 (hval 1 37 v1 rfl rfl) h1
  obtain ⟨x2, rfl, rfl, rfl, w2⟩ := open_int Tryd.underlying5 (hval 2 5 v2 rfl rfl) h2
  clear hA0 hval0
  refine (walk t0 e01 n01 c01 e02 n02 c02 e03 n03 c03 e04 n04 c04 x1 x2 W w0 w1 w2 (tab_of_laids hL)).mono fun e W' ⟨he, bel⟩ => ?_
  subst he
  exact ⟨_, rfl, _, _, _, [], _, [], hW', trodAll_mk1 (shut_bool Tryd.underlying4 _), (trodAll_cons_mk (Below.trod laidOut (by kernel_rfl) (of_decide_eq_true (by kernel_rfl)) k0 bel lt0) (trodAll_cons_mk (shut_int Tryd.underlying37 w1) (trodAll_cons_mk (shut_int Tryd.underlying5 w2) trodAll_mk0))), rfl, bel.frame _, fun h => by cases h⟩

theorem over : Rows.traceSpoiledRow.holds Tryd.pinned (OpenSpec.ofChange Rows.traceSpoiledSpec) :=
  OpenClaim.holds_of_wide 5 Tryd.f5 rfl rfl rfl rfl rfl rfl rfl ⟨rfl, rfl, rfl, rfl, rfl⟩ rfl rfl rfl rfl rfl (by kernel_rfl) Tryd.func5 (by kernel_rfl)
    (of_decide_eq_true (by kernel_rfl)) (by unfold Func.isWrapper; first | (rw [if_pos (by decide +kernel)]; kernel_rfl) | (rw [if_neg (by decide +kernel)]; exact ⟨rfl, rfl⟩))
    (fun os started H enc _ => lifted os started H enc)

/-- The statement. -/
theorem proved : Rows.TraceSpoiledCardSaid :=
  Claim7.holds_tied_plain_at .later [] [.data, .data, .data] true (true, "e7feedf59ff181a104340043f70b59ee275e4fff4a0462667d31ca2c37e59299") true
    over (fun _ h => by cases h) (by kernel_rfl) (fun _ h => by cases h) traceSpoiled_row_tie rfl ⟨rfl, rfl⟩ (by kernel_rfl) rfl
    (fun f fn hf hfn => by
      obtain rfl : f = 5 := Option.some.inj ((show Tryd.prog.funcNamed "linchpin/linchpinlaw25.TraceSpoiled" = some 5 by kernel_rfl).symm.trans hf) |>.symm
      obtain rfl : fn = Tryd.f5 := (Option.some.inj (Tryd.func5.symm.trans hfn)).symm
      exact ⟨by kernel_rfl, fun j t ht => by
        rw [Tryd.params5] at ht
        rcases j with _ | j
        · obtain rfl : 27 = t := by simpa using ht
          exact (show Tryd.prog.wantsStandIn 27 = false by kernel_rfl)
        rcases j with _ | j
        · obtain rfl : 37 = t := by simpa using ht
          exact (show Tryd.prog.wantsStandIn 37 = false by kernel_rfl)
        rcases j with _ | j
        · obtain rfl : 5 = t := by simpa using ht
          exact (show Tryd.prog.wantsStandIn 5 = false by kernel_rfl)
        simp at ht⟩)
    (by kernel_rfl)
#print axioms proved

end Go.Proofs.YtimeodjfihpgeaaDoor.traceSpoiled
