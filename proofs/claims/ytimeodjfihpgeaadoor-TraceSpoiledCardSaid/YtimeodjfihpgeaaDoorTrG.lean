/-
  Records of ticks: the walk of the program's 'Text'.
-/
import Derived.Test.YtimeodjfihpgeaaDoorTrF
import Derived.Test.YtimeodjfihpgeaaDoorMapL
import Derived.Deep.RegionHeld3
namespace Go.Proofs.YtimeodjfihpgeaaDoor
open Go.RowKit

def strE : ElemR Bs where
  val := fun l => .string ⟨l.toArray⟩
  dec := fun v => match v with | .string s => some s.data.toList | _ => none
  enc := fun l => .lit (.string l)
  mkdec := fun a => by simp
  decmk := fun v a h => by
    split at h
    · injection h with h; subst h; simp
    · cases h
  inj := fun a b h => by simpa using h
theorem zeroStr (w : World) : (zeroValue 9).run Tryd.prog w = .ok (.string ⟨#[]⟩) w := by kernel_rfl
def kindC (k : Int) : UInt8 := if k = 1 then 100 else 97
/-- The literal map of the kinds. -/
theorem kind_map (w : World) (k : Int) (hk : k = 1 ∨ k = 2) : ∃ w1 w2, (Instr.mapUpdate 44 (.map (some w.heap.size)) (.int .i64 1) (.string ⟨#[100]⟩)).run Tryd.prog (w.alloc (.map #[] 0)) = .ok () w1 ∧
    (Instr.mapUpdate 44 (.map (some w.heap.size)) (.int .i64 2) (.string ⟨#[97]⟩)).run Tryd.prog w1 = .ok () w2 ∧
    (Instr.lookup 44 (.map (some w.heap.size)) (.int .i64 k) false).run Tryd.prog w2 = .ok (.string ⟨#[kindC k]⟩) w2 ∧ Box (Below w.heap.size w w2) := by
  have h0 := MapAt.made w Tryd.prog 3 strE
  have f0 : Fr (fun k => k = w.heap.size) w (w.alloc (.map #[] 0)) := (Fr.refl _ w).alloc _
  obtain ⟨w1, r1, h1, g1⟩ := h0.store (t := 44) Tryd.underlying3 Tryd.underlying44 (by decide) (x := 1) (kwf_of (by omega) (by omega)) [100]
  obtain ⟨w2, r2, h2, g2⟩ := h1.store (t := 44) Tryd.underlying3 Tryd.underlying44 (by decide) (x := 2) (kwf_of (by omega) (by omega)) [97]
  have r3 := h2.look (t := 44) Tryd.underlying3 Tryd.underlying44 (z := []) (zeroStr w2) (x := k) (kwf_of (by omega) (by omega))
  refine ⟨w1, w2, r1, r2, ?_, ⟨((f0.trans g1).trans g2).below (Nat.le_refl _) (fun k _ e => by omega)⟩⟩
  rw [r3]
  rcases hk with rfl | rfl
  · rw [at1_ne _ _ (by decide), at1_same]; rfl
  · rw [at1_same]; rfl
theorem marked_one (m : Bs) (hm : m.length ≤ 10) (v : Int) (h0 : 0 ≤ v) (h1 : v ≤ 2147483647) (g : Nat) (w : World) (hc : w.cell? ⟨g, 0, none⟩ = some (.int .i64 v)) (hg : g < w.heap.size) (ht : Tab w) :
    Calls Tryd.prog 16 #[strv m, .slice (some ⟨g, 0, none⟩) 1 1] w fun e w' => e = .returned (strv (m ++ Lib.itoa v)) ∧ Below w.heap.size w w' := by
  have := marked_any m hm (some ⟨g, 0, none⟩) 1 1 [v] w ⟨rfl, by decide, fun _ => ⟨g, 0, rfl, hg, fun i hi => by
    obtain rfl : i = 0 := by simp at hi; omega
    exact hc⟩⟩ (fun u hu => by obtain rfl := List.mem_singleton.1 hu; exact ⟨h0, h1⟩) ht
  rw [show marksB m [v] = m ++ Lib.itoa v from by simp [marksB]] at this
  exact this
theorem new_cell (w : World) (x : Value) (T : TypeId) : (w.alloc (.cells #[x] T)).cell? ⟨w.heap.size, 0, none⟩ = some x := (cell_blk (blk_new _ _) 0).trans rfl
theorem old_cell (w : World) (x : Value) (T : TypeId) (o : Obj) : ((w.alloc (.cells #[x] T)).alloc o).cell? ⟨w.heap.size, 0, none⟩ = some x := (cell_blk (blk_alloc (blk_new _ _)) 0).trans rfl
theorem fatesT_snoc (l : List (Int × Int × Int)) (f : Int × Int × Int) : fatesT (l ++ [f]) = fatesT l ++ fateT f := by simp [fatesT]
theorem fateT_kind (p k v : Int) : fateT (p, k, v) = ([61] ++ Lib.itoa p) ++ ([kindC k] ++ Lib.itoa v) := rfl
theorem who_three {v : Int} (h : whoB v = true) : (100 ≤ v ∧ v ≤ 115) ∨ (0 ≤ v ∧ v ≤ 31) ∨ v < 0 := by
  unfold whoB at h
  simp only [Bool.or_eq_true, decide_eq_true_eq] at h
  omega
theorem held_alloc {V w : World} {F : Nat} {p v : Value} {o : Obj} (h : w.cell? ⟨F, 0, none⟩ = some p ∧ w.cell? ⟨F, 2, none⟩ = some v ∧ Below V.heap.size V w) : (w.alloc o).cell? ⟨F, 0, none⟩ = some p ∧ (w.alloc o).cell? ⟨F, 2, none⟩ = some v ∧ Below V.heap.size V (w.alloc o) := by
  have hb : Below w.heap.size w (w.alloc o) := (Below.refl _ _).alloc (Nat.le_refl _) _
  exact ⟨(hb.cell (p := ⟨F, 0, none⟩) (World.block_lt_of_cell? _ _ h.1)).trans h.1, (hb.cell (p := ⟨F, 2, none⟩) (World.block_lt_of_cell? _ _ h.2.1)).trans h.2.1, h.2.2.alloc h.2.2.size _⟩
theorem held_alloc_d {V w : World} {F : Nat} {p v : Value} {o : Obj} (h : (w.drew).cell? ⟨F, 0, none⟩ = some p ∧ (w.drew).cell? ⟨F, 2, none⟩ = some v ∧ Below V.heap.size V w.drew) : ((w.alloc o).drew).cell? ⟨F, 0, none⟩ = some p ∧ ((w.alloc o).drew).cell? ⟨F, 2, none⟩ = some v ∧ Below V.heap.size V (w.alloc o).drew := held_alloc (w := w.drew) (o := o) h
theorem lt_new (w : World) (o : Obj) : w.heap.size < (w.alloc o).heap.size := by simp
theorem lt_new_d (w : World) (o : Obj) : w.heap.size < ((w.alloc o).drew).heap.size := lt_new w o
theorem lt_old (w : World) (o o' : Obj) : w.heap.size < ((w.alloc o).alloc o').heap.size := by simp; omega
theorem lt_old_d (w : World) (o o' : Obj) : w.heap.size < (((w.alloc o).alloc o').drew).heap.size := lt_old w o o'
theorem new_cell_d (w : World) (x : Value) (T : TypeId) : ((w.alloc (.cells #[x] T)).drew).cell? ⟨w.heap.size, 0, none⟩ = some x := new_cell w x T
theorem old_cell_d (w : World) (x : Value) (T : TypeId) (o : Obj) : (((w.alloc (.cells #[x] T)).alloc o).drew).cell? ⟨w.heap.size, 0, none⟩ = some x := old_cell w x T o
theorem held_new_d {w w' : World} {x : Value} {T : TypeId} (h : Below ((w.alloc (.cells #[x] T)).drew).heap.size ((w.alloc (.cells #[x] T)).drew) w') : w'.cell? ⟨w.heap.size, 0, none⟩ = some x := (h.cell (p := ⟨w.heap.size, 0, none⟩) (by simp)).trans (new_cell _ _ _)
theorem held_old_d {w w' : World} {x : Value} {T : TypeId} {o : Obj} (h : Below (((w.alloc (.cells #[x] T)).alloc o).drew).heap.size (((w.alloc (.cells #[x] T)).alloc o).drew) w') : w'.cell? ⟨w.heap.size, 0, none⟩ = some x := (h.cell (p := ⟨w.heap.size, 0, none⟩) (by simp; omega)).trans (old_cell _ _ _ _)
theorem held_new_d2 {w w' : World} {x : Value} {T : TypeId} {o : Obj} (h : Below (((w.alloc o).alloc (.cells #[x] T)).drew).heap.size (((w.alloc o).alloc (.cells #[x] T)).drew) w') : w'.cell? ⟨(w.alloc o).heap.size, 0, none⟩ = some x := (h.cell (p := ⟨(w.alloc o).heap.size, 0, none⟩) (by simp)).trans (new_cell _ _ _)
theorem held_lt_d {w w' : World} {o : Obj} (h : Below ((w.alloc o).drew).heap.size ((w.alloc o).drew) w') : w.heap.size < w'.heap.size := Nat.lt_of_lt_of_le (by simp) h.size
theorem held_lt2_d {w w' : World} {o o' : Obj} (h : Below (((w.alloc o).alloc o').drew).heap.size (((w.alloc o).alloc o').drew) w') : w.heap.size < w'.heap.size := Nat.lt_of_lt_of_le (by simp; omega) h.size
theorem held_new {w w' : World} {x : Value} {T : TypeId} (h : Below (w.alloc (.cells #[x] T)).heap.size (w.alloc (.cells #[x] T)) w') : w'.cell? ⟨w.heap.size, 0, none⟩ = some x := (h.cell (p := ⟨w.heap.size, 0, none⟩) (by simp)).trans (new_cell _ _ _)
theorem held_old {w w' : World} {x : Value} {T : TypeId} {o : Obj} (h : Below ((w.alloc (.cells #[x] T)).alloc o).heap.size ((w.alloc (.cells #[x] T)).alloc o) w') : w'.cell? ⟨w.heap.size, 0, none⟩ = some x := (h.cell (p := ⟨w.heap.size, 0, none⟩) (by simp; omega)).trans (old_cell _ _ _ _)
theorem held_lt {w w' : World} {o : Obj} (h : Below (w.alloc o).heap.size (w.alloc o) w') : w.heap.size < w'.heap.size := Nat.lt_of_lt_of_le (by simp) h.size
theorem held_lt2 {w w' : World} {o o' : Obj} (h : Below ((w.alloc o).alloc o').heap.size ((w.alloc o).alloc o') w') : w.heap.size < w'.heap.size := Nat.lt_of_lt_of_le (by simp; omega) h.size
theorem by_eq {P : Nat → Prop} {g k : Nat} (h : P k) (e : g = k) : P g := e ▸ h
theorem cell_eq {w : World} {x : Value} {g k : Nat} (h : w.cell? ⟨k, 0, none⟩ = some x) (e : g = k) : w.cell? ⟨g, 0, none⟩ = some x := e ▸ h
theorem lt_eq {a g k : Nat} (h : k < a) (e : g = k) : g < a := e ▸ h
theorem held_have {a b : Prop} (h : a) (g : a → b) : b := g h
theorem held_below {V w : World} {F : Nat} {p v : Value} (h : w.cell? ⟨F, 0, none⟩ = some p ∧ w.cell? ⟨F, 2, none⟩ = some v ∧ Below V.heap.size V w) : Below V.heap.size V w := h.2.2
theorem held_step {V w w' : World} {F : Nat} {p v : Value} (h : w.cell? ⟨F, 0, none⟩ = some p ∧ w.cell? ⟨F, 2, none⟩ = some v ∧ Below V.heap.size V w) (hb : Below w.heap.size w w') : w'.cell? ⟨F, 0, none⟩ = some p ∧ w'.cell? ⟨F, 2, none⟩ = some v ∧ Below V.heap.size V w' :=
  ⟨(hb.cell (p := ⟨F, 0, none⟩) (World.block_lt_of_cell? _ _ h.1)).trans h.1, (hb.cell (p := ⟨F, 2, none⟩) (World.block_lt_of_cell? _ _ h.2.1)).trans h.2.1, below_step h.2.2 hb⟩

set_option maxHeartbeats 16000000 in
set_option maxRecDepth 100000 in
theorem ttext_any (t : Tk) (a1 : Option Addr) (n1 c1 : Nat) (a2 : Option Addr) (n2 c2 : Nat) (a3 : Option Addr) (n3 c3 : Nat) (a4 : Option Addr) (n4 c4 : Nat) (w : World) (h : TkAt w t a1 n1 a2 n2 a3 n3 a4 n4) (ht : Tab w) (b1 : n1 ≤ 10000) (b2 : n2 ≤ 10000) (b3 : n3 ≤ 10000) (b4 : n4 ≤ 10000) : Calls Tryd.prog 8 #[.agg #[.int .i64 t.who, .slice a1 n1 c1, .slice a2 n2 c2, .slice a3 n3 c3, .slice a4 n4 c4]] w fun e w' => e = .returned (strv (textT t)) ∧ Below w.heap.size w w' := by
  have hbl : Below w.heap.size w (w.alloc (.cells #[.int .i64 t.who, .slice a1 n1 c1, .slice a2 n2 c2, .slice a3 n3 c3, .slice a4 n4 c4] 27)) := (Below.refl _ w).alloc (Nat.le_refl _) _
  have HB := Box.mk hbl
  have HK := Box.mk (h.later hbl)
  have HT := Box.mk (ht.on hbl)
  have HX1 : Box ((w.alloc (.cells #[.int .i64 t.who, .slice a1 n1 c1, .slice a2 n2 c2, .slice a3 n3 c3, .slice a4 n4 c4] 27)).heap[w.heap.size]? = some (.cells #[.int .i64 t.who, .slice a1 n1 c1, .slice a2 n2 c2, .slice a3 n3 c3, .slice a4 n4 c4] 27 (0, 0))) := ⟨blk_new _ _⟩
  clear h hbl ht
  go_enter Tryd.func8, Tryd.ntmps8
  go_upto_region 1 with fail
  generalize hV : w.alloc (.cells #[.int .i64 t.who, .slice a1 n1 c1, .slice a2 n2 c2, .slice a3 n3 c3, .slice a4 n4 c4] 27) = V at HB HX1 HK HT ⊢
  have HVS : Box (V.heap.size = w.heap.size + 1) := ⟨by rw [← hV]; simp⟩
  clear hV
  have HC : Box (∀ w', Below V.heap.size V w' → w'.cell? ⟨w.heap.size, 0, none⟩ = some (.int .i64 t.who) ∧ w'.cell? ⟨w.heap.size, 1, none⟩ = some (.slice a1 n1 c1) ∧ w'.cell? ⟨w.heap.size, 2, none⟩ = some (.slice a2 n2 c2) ∧ w'.cell? ⟨w.heap.size, 3, none⟩ = some (.slice a3 n3 c3) ∧ w'.cell? ⟨w.heap.size, 4, none⟩ = some (.slice a4 n4 c4)) := ⟨fun w' hb => by
    have h5 := (hb.block w.heap.size (lt_blk HX1.out)).trans HX1.out
    exact ⟨(cell_blk h5 0).trans rfl, (cell_blk h5 1).trans rfl, (cell_blk h5 2).trans rfl, (cell_blk h5 3).trans rfl, (cell_blk h5 4).trans rfl⟩⟩
  have HBW : Box (∀ w', Below V.heap.size V w' → Below w.heap.size w w') := ⟨fun w' hb => HB.out.trans (hb.mono (by have := HVS.out; omega))⟩
  have HM := Box.mk (tmay_any t a1 n1 c1 a2 n2 c2 a3 n3 c3 a4 n4 c4 V HK.out)
  have hwl : w.heap.size < V.heap.size := by have := HVS.out; omega
  clear HB HX1 HVS
  obtain ⟨e0, e1, e2, e3, e4⟩ := HC.out V (Below.refl _ _)
  cases hm : mayT t with
  | false =>
    rw [hm] at HM
    have HE : Box (textT t = []) := ⟨by unfold textT; rw [hm]; rfl⟩
    go_wp2_with (go_at_call 10; (with_reducible refine HM.out.mono ?_); rintro e w1 ⟨rfl, hb⟩; have HB1 := Box.mk hb; clear hb)
    go_ret
    exact ⟨by rw [HE.out]; rfl, HBW.out _ HB1.out⟩
  | true =>
    rw [hm] at HM
    have HE : Box (textT t = textU t) := ⟨by unfold textT; rw [if_pos hm]⟩
    obtain ⟨m0, m1, m2, m3, m4⟩ := may_parts hm
    have HR1 := Box.mk (rising_bounds (by omega) m1)
    have HR2 := Box.mk (rising_bounds (by omega) m2)
    have HR3 := Box.mk (rising_bounds (by omega) m3)
    have HF := Box.mk m4
    have HW := Box.mk (who_three m0)
    clear m0 m1 m2 m3 m4
    go_upto_block 0 with (go_at_call 10; (with_reducible refine HM.out.mono ?_); rintro e w1 ⟨rfl, hb⟩; have HB1 := Box.mk hb; obtain ⟨f0, f1, f2, f3, f4⟩ := HC.out w1 hb; clear hb)
    clear HM hm
    go_cut [3] (fun s3 wx => s3 = .string ⟨(whoT t.who).toArray⟩ ∧ Box (Below V.heap.size V wx))
    case first =>
      rcases HW.out with ⟨q1, q2⟩ | ⟨q1, q2⟩ | q1
      · have hwb : IntKind.i64.wrap (t.who - 100) = t.who - 100 := IntWalk.i64_in _ (by omega)
        have HO := Box.mk (marked_one [115] (by decide) (t.who - 100) (by omega) (by omega) w1.heap.size (w1.alloc (.cells #[.int .i64 (t.who - 100)] 3)) (new_cell _ _ _) (by simp) (HT.out.on (HB1.out.alloc HB1.out.size _)))
        go_wp2_with (go_at_call 16; (with_reducible refine HO.out.mono ?_); rintro e w2 ⟨rfl, hb⟩; have HB2 := Box.mk (below_step (HB1.out.alloc HB1.out.size _) hb); clear hb)
        go_meet
        exact ⟨by unfold whoT; rw [if_pos (by omega)]; first | done | rfl, HB2⟩
      · have q3 : ¬ 100 ≤ t.who := by omega
        have HO := Box.mk (marked_one [116] (by decide) t.who (by omega) (by omega) w1.heap.size (w1.alloc (.cells #[.int .i64 t.who] 3)) (new_cell _ _ _) (by simp) (HT.out.on (HB1.out.alloc HB1.out.size _)))
        go_wp2_with (go_at_call 16; (with_reducible refine HO.out.mono ?_); rintro e w2 ⟨rfl, hb⟩; have HB2 := Box.mk (below_step (HB1.out.alloc HB1.out.size _) hb); clear hb)
        go_meet
        exact ⟨by unfold whoT; rw [if_neg (by omega), if_pos (by omega)]; first | done | rfl, HB2⟩
      · have q3 : ¬ 100 ≤ t.who := by omega
        have q4 : ¬ 0 ≤ t.who := by omega
        go_wp2
        go_meet
        exact ⟨by unfold whoT; rw [if_neg (by omega), if_neg (by omega)], HB1⟩
    case rest =>
      obtain ⟨rfl, HBX⟩ := hcut
      rename World => V2
      obtain ⟨g0, g1, g2, g3, g4⟩ := HC.out V2 HBX.out
      have hx0 : (whoT t.who).length ≤ 22 := by
        have hi := fun v : Int => Lib.itoa_length_le v
        unfold whoT
        split
        · have := hi (t.who - 100) (by omega) (by have := HW.out; omega); simp; omega
        · split
          · have := hi t.who (by omega) (by have := HW.out; omega); simp; omega
          · simp
      have hd := marks_len (m := [43]) (fun v hv => ⟨(HR1.out v hv).1, by have := (HR1.out v hv).2; omega⟩)
      have hc := marks_len (m := [47]) (fun v hv => ⟨(HR2.out v hv).1, by have := (HR2.out v hv).2; omega⟩)
      have hq := marks_len (m := [33]) (fun v hv => ⟨(HR3.out v hv).1, by have := (HR3.out v hv).2; omega⟩)
      simp only [List.length_cons, List.length_nil, HK.out.dn.1, HK.out.ct.1, HK.out.ms.1] at hd hc hq
      have HM1 : Box (∀ w', Below V.heap.size V w' → Calls Tryd.prog 16 #[strv [43], .slice a1 n1 c1] w' fun e w'' => e = .returned (strv (marksB [43] t.dn)) ∧ Below w'.heap.size w' w'') := ⟨fun w' hb => marked_any [43] (by decide) a1 n1 c1 t.dn w' (HK.out.dn.later hb) (fun v hv => ⟨(HR1.out v hv).1, by have := (HR1.out v hv).2; omega⟩) (HT.out.on hb)⟩
      have HM2 : Box (∀ w', Below V.heap.size V w' → Calls Tryd.prog 16 #[strv [47], .slice a2 n2 c2] w' fun e w'' => e = .returned (strv (marksB [47] t.ct)) ∧ Below w'.heap.size w' w'') := ⟨fun w' hb => marked_any [47] (by decide) a2 n2 c2 t.ct w' (HK.out.ct.later hb) (fun v hv => ⟨(HR2.out v hv).1, by have := (HR2.out v hv).2; omega⟩) (HT.out.on hb)⟩
      have HM3 : Box (∀ w', Below V.heap.size V w' → Calls Tryd.prog 16 #[strv [33], .slice a3 n3 c3] w' fun e w'' => e = .returned (strv (marksB [33] t.ms)) ∧ Below w'.heap.size w' w'') := ⟨fun w' hb => marked_any [33] (by decide) a3 n3 c3 t.ms w' (HK.out.ms.later hb) (fun v hv => ⟨(HR3.out v hv).1, by have := (HR3.out v hv).2; omega⟩) (HT.out.on hb)⟩
      have HE2 : Box (textU t = (whoT t.who ++ (marksB [43] t.dn ++ marksB [47] t.ct ++ marksB [33] t.ms)) ++ fatesT t.fs) := ⟨rfl⟩
      have HKF : Box (∀ w', Below V.heap.size V w' → FatesAt w' a4 n4 t.fs) := ⟨fun w' hb => HK.out.fs.later hb⟩
      clear HK HR1 HR2 HR3 f0 f1 f2 f3 f4 HB1 HW
      generalize whoT t.who = X0 at hx0 HE2
      generalize marksB [43] t.dn = X1 at hd HM1 HE2
      generalize marksB [47] t.ct = X2 at hc HM2 HE2
      generalize marksB [33] t.ms = X3 at hq HM3 HE2
      go_upto_region 9 with fail
      have hbr := HBX.out
      have hbd := hbr.drew
      have hl1 : ¬ 9223372036854775807 < X1.length + X2.length := by omega
      have hl2 : ¬ 9223372036854775807 < X1.length + X2.length + X3.length := by omega
      have hl3 : ¬ 9223372036854775807 < X0.length + (X1.length + X2.length + X3.length) := by omega
      go_region_held3 (fun w' => w'.cell? ⟨w.heap.size, 1, none⟩ = some (.slice a1 n1 c1) ∧ w'.cell? ⟨w.heap.size, 2, none⟩ = some (.slice a2 n2 c2) ∧ w'.cell? ⟨w.heap.size, 3, none⟩ = some (.slice a3 n3 c3) ∧ Below V.heap.size V w') (simp [*, below_drew])
        (first
          | (go_at_call 16; (with_reducible refine (HM1.out _ (by first | assumption | exact hbr.drew)).mono ?_); rintro e w5 ⟨rfl, hb⟩; have hb7 := below_step (w := V) (by first | assumption | exact hbr.drew) hb; obtain ⟨g0, g1, g2, g3, g4⟩ := HC.out w5 hb7)
          | (go_at_call 16; (with_reducible refine (HM2.out _ (by first | assumption | exact hbr.drew)).mono ?_); rintro e w5 ⟨rfl, hb⟩; have hb7 := below_step (w := V) (by first | assumption | exact hbr.drew) hb; obtain ⟨g0, g1, g2, g3, g4⟩ := HC.out w5 hb7)
          | (go_at_call 16; (with_reducible refine (HM3.out _ (by first | assumption | exact hbr.drew)).mono ?_); rintro e w5 ⟨rfl, hb⟩; have hb7 := below_step (w := V) (by first | assumption | exact hbr.drew) hb; obtain ⟨g0, g1, g2, g3, g4⟩ := HC.out w5 hb7))
      go_upto_block 1 with fail
      have hbs : Below V.heap.size V w5 := hb7
      have HB5 := Box.mk hbs
      clear hbs hbr hbd HM1 HM2 HM3 HBX hl1 hl2 hl3
      obtain ⟨P0, HP0⟩ : ∃ P0, Box (P0 = X0 ++ (X1 ++ X2 ++ X3)) := ⟨_, ⟨rfl⟩⟩
      rw [← HP0.out] at HE2
      have hp0 : P0.length ≤ 700000 := by rw [HP0.out]; simp only [List.length_append]; omega
      go_wp2
      go_loopw [3, 6, 7, 46] (fun s3 _ _ s46 wr => ∃ (i : Nat) (k : Bs), i ≤ n4 ∧ s46 = .int .i64 i ∧ s3 = .string ⟨k.toArray⟩ ∧ k.length ≤ 700000 + 50 * i ∧ Box (k = P0 ++ fatesT (t.fs.take i)) ∧ Box (Below V.heap.size V wr)) (fun _ _ _ s46 _ => n4 - (intOf s46).toNat)
      case atStart => exact ⟨0, P0, by omega, rfl, by rw [HP0.out]; simp only [strb_app], by omega, ⟨by simp [fatesT]⟩, HB5⟩
      case round =>
        clear HB5 HP0
        obtain ⟨i, k, hi, rfl, rfl, hk, HX, HBR⟩ := hrel
        by_cases hlt : i < n4
        · obtain ⟨b, off, p, kd, v, rfl, hbz, hdr, c0, c1, c2⟩ := (HKF.out wr HBR.out).at hlt
          have hii : (i : Int) < n4 := by omega
          have hi0 : (0 : Int) ≤ i := by omega
          have hfl := (HKF.out wr HBR.out).1
          have hit : i < t.fs.length := by omega
          have hfe : t.fs[i] = (p, kd, v) := by
            have := List.drop_eq_getElem_cons hit
            rw [hdr] at this
            injection this with this _
            exact this.symm
          have hfb := fate_bounds (HF.out _ (List.getElem_mem hit))
          rw [hfe] at hfb
          have HX2 : Box (k ++ (([61] ++ Lib.itoa p) ++ ([kindC kd] ++ Lib.itoa v)) = P0 ++ fatesT (t.fs.take (i + 1))) := ⟨by rw [HX.out, List.take_succ_eq_append_getElem hit, fatesT_snoc, hfe, fateT_kind]; simp⟩
          obtain ⟨⟨hp1, hp2⟩, hkk, hv1, hv2⟩ := hfb
          simp only at hp1 hp2 hkk hv1 hv2
          clear hdr hfl hfe HX hit
          have hlp : (Lib.itoa p).length ≤ 21 := Lib.itoa_length_le _ (by omega) (by omega)
          have hlv : (Lib.itoa v).length ≤ 21 := Lib.itoa_length_le _ (by omega) (by omega)
          have HO1 : Box (∀ (g : Nat) (w' : World), w'.cell? ⟨g, 0, none⟩ = some (.int .i64 p) → g < w'.heap.size → Below V.heap.size V w' → Calls Tryd.prog 16 #[strv [61], .slice (some ⟨g, 0, none⟩) 1 1] w' fun e w'' => e = .returned (strv ([61] ++ Lib.itoa p)) ∧ Below w'.heap.size w' w'') := ⟨fun g w' hc hg hb => marked_one [61] (by decide) p hp1 (by omega) g w' hc hg (HT.out.on hb)⟩
          have HO2 : Box (∀ (g : Nat) (w' : World), w'.cell? ⟨g, 0, none⟩ = some (.int .i64 v) → g < w'.heap.size → Below V.heap.size V w' → Calls Tryd.prog 16 #[strv [kindC kd], .slice (some ⟨g, 0, none⟩) 1 1] w' fun e w'' => e = .returned (strv ([kindC kd] ++ Lib.itoa v)) ∧ Below w'.heap.size w' w'') := ⟨fun g w' hc hg hb => marked_one [kindC kd] (by simp) v hv1 (by omega) g w' hc hg (HT.out.on hb)⟩
          have hwr : V.heap.size ≤ wr.heap.size := HBR.out.size
          have HBF : Box (Below V.heap.size V (wr.alloc (.cells #[.int .i64 p, .int .i64 kd, .int .i64 v] 36))) := ⟨HBR.out.alloc HBR.out.size _⟩
          have HXF : Box ((wr.alloc (.cells #[.int .i64 p, .int .i64 kd, .int .i64 v] 36)).heap[wr.heap.size]? = some (.cells #[.int .i64 p, .int .i64 kd, .int .i64 v] 36 (0, 0))) := ⟨blk_new _ _⟩
          go_upto_region 13 with fail
          generalize hVF : wr.alloc (.cells #[.int .i64 p, .int .i64 kd, .int .i64 v] 36) = VF at HBF HXF ⊢
          have HFS : Box (wr.heap.size < VF.heap.size) := ⟨lt_blk HXF.out⟩
          clear hVF c0 c1 c2
          have d1 : VF.cell? ⟨wr.heap.size, 1, none⟩ = some (.int .i64 kd) := (cell_blk HXF.out 1).trans rfl
          obtain ⟨u1, u2, r1, r2, r3, HBU⟩ := kind_map VF kd hkk
          have hmm := @run_makeMap Tryd.prog
          have d1u : u2.cell? ⟨wr.heap.size, 1, none⟩ = some (.int .i64 kd) := (HBU.out.cell (p := ⟨wr.heap.size, 1, none⟩) HFS.out).trans d1
          have d0u : u2.cell? ⟨wr.heap.size, 0, none⟩ = some (.int .i64 p) := (HBU.out.cell (p := ⟨wr.heap.size, 0, none⟩) HFS.out).trans ((cell_blk HXF.out 0).trans rfl)
          have d2u : u2.cell? ⟨wr.heap.size, 2, none⟩ = some (.int .i64 v) := (HBU.out.cell (p := ⟨wr.heap.size, 2, none⟩) HFS.out).trans ((cell_blk HXF.out 2).trans rfl)
          have HB2 := Box.mk (below_step HBF.out HBU.out)
          go_upto_region 14 with fail
          have hla : ([61] ++ Lib.itoa p).length ≤ 22 := by simp; omega
          have hlb : ([kindC kd] ++ Lib.itoa v).length ≤ 22 := by simp; omega
          generalize [61] ++ Lib.itoa p = A at HO1 HX2 hla
          generalize [kindC kd] ++ Lib.itoa v = B at HO2 HX2 hlb
          clear r1 r2 r3 hmm d1 d1u hp1 hp2 hkk hv1 hv2 hlp hlv
          have hbr := HB2.out
          have hbd := hbr.drew
          have hl1 : ¬ 9223372036854775807 < A.length + B.length := by omega
          have hl2 : ¬ 9223372036854775807 < k.length + (A.length + B.length) := by omega
          go_region_held3 (fun w' => w'.cell? ⟨wr.heap.size, 0, none⟩ = some (.int .i64 p) ∧ w'.cell? ⟨wr.heap.size, 2, none⟩ = some (.int .i64 v) ∧ Below V.heap.size V w') (first | assumption | (simp [*, below_drew]; done) | (refine held_alloc_d ?_; assumption) | (refine held_alloc ?_; assumption))
            (first
              | (go_at_call 16; (with_reducible refine (HO1.out _ _ ?_ ?_ ?_).mono ?_); (first | (with_reducible exact new_cell_d _ _ _) | (with_reducible exact old_cell_d _ _ _ _) | (with_reducible exact new_cell _ _ _) | (with_reducible exact old_cell _ _ _ _) | (with_reducible exact held_new_d HBc.out) | (with_reducible exact held_old_d HBc.out) | (with_reducible exact held_new HBc.out) | (with_reducible exact held_old HBc.out) | ((with_reducible refine cell_eq (new_cell_d _ _ _) ?_); focus (simp; done)) | ((with_reducible refine cell_eq (old_cell_d _ _ _ _) ?_); focus (simp; done)) | ((with_reducible refine cell_eq (new_cell _ _ _) ?_); focus (simp; done)) | ((with_reducible refine cell_eq (old_cell _ _ _ _) ?_); focus (simp; done)) | ((with_reducible refine cell_eq (held_new_d HBc.out) ?_); focus (simp; done)) | ((with_reducible refine cell_eq (held_old_d HBc.out) ?_); focus (simp; done)) | ((with_reducible refine cell_eq (held_new HBc.out) ?_); focus (simp; done)) | ((with_reducible refine cell_eq (held_old HBc.out) ?_); focus (simp; done)) | fail); (first | (with_reducible exact lt_new_d _ _) | (with_reducible exact lt_old_d _ _ _) | (with_reducible exact lt_new _ _) | (with_reducible exact lt_old _ _ _) | (with_reducible exact held_lt_d HBc.out) | (with_reducible exact held_lt2_d HBc.out) | (with_reducible exact held_lt HBc.out) | (with_reducible exact held_lt2 HBc.out) | ((with_reducible refine lt_eq (lt_new_d _ _) ?_); focus (simp; done)) | ((with_reducible refine lt_eq (lt_old_d _ _ _) ?_); focus (simp; done)) | ((with_reducible refine lt_eq (lt_new _ _) ?_); focus (simp; done)) | ((with_reducible refine lt_eq (lt_old _ _ _) ?_); focus (simp; done)) | ((with_reducible refine lt_eq (held_lt_d HBc.out) ?_); focus (simp; done)) | ((with_reducible refine lt_eq (held_lt2_d HBc.out) ?_); focus (simp; done)) | ((with_reducible refine lt_eq (held_lt HBc.out) ?_); focus (simp; done)) | ((with_reducible refine lt_eq (held_lt2 HBc.out) ?_); focus (simp; done)) | fail); (refine held_below (F := wr.heap.size) (p := .int .i64 p) (v := .int .i64 v) ?_; assumption); rintro e w6 ⟨rfl, hb⟩; refine held_have (held_step (V := V) (F := wr.heap.size) (p := .int .i64 p) (v := .int .i64 v) ?_ hb) ?_; assumption; intro hs6; have HBc := Box.mk hb; clear hb)
              | (go_at_call 16; (with_reducible refine (HO2.out _ _ ?_ ?_ ?_).mono ?_); (first | (with_reducible exact new_cell_d _ _ _) | (with_reducible exact old_cell_d _ _ _ _) | (with_reducible exact new_cell _ _ _) | (with_reducible exact old_cell _ _ _ _) | (with_reducible exact held_new_d HBc.out) | (with_reducible exact held_old_d HBc.out) | (with_reducible exact held_new HBc.out) | (with_reducible exact held_old HBc.out) | ((with_reducible refine cell_eq (new_cell_d _ _ _) ?_); focus (simp; done)) | ((with_reducible refine cell_eq (old_cell_d _ _ _ _) ?_); focus (simp; done)) | ((with_reducible refine cell_eq (new_cell _ _ _) ?_); focus (simp; done)) | ((with_reducible refine cell_eq (old_cell _ _ _ _) ?_); focus (simp; done)) | ((with_reducible refine cell_eq (held_new_d HBc.out) ?_); focus (simp; done)) | ((with_reducible refine cell_eq (held_old_d HBc.out) ?_); focus (simp; done)) | ((with_reducible refine cell_eq (held_new HBc.out) ?_); focus (simp; done)) | ((with_reducible refine cell_eq (held_old HBc.out) ?_); focus (simp; done)) | fail); (first | (with_reducible exact lt_new_d _ _) | (with_reducible exact lt_old_d _ _ _) | (with_reducible exact lt_new _ _) | (with_reducible exact lt_old _ _ _) | (with_reducible exact held_lt_d HBc.out) | (with_reducible exact held_lt2_d HBc.out) | (with_reducible exact held_lt HBc.out) | (with_reducible exact held_lt2 HBc.out) | ((with_reducible refine lt_eq (lt_new_d _ _) ?_); focus (simp; done)) | ((with_reducible refine lt_eq (lt_old_d _ _ _) ?_); focus (simp; done)) | ((with_reducible refine lt_eq (lt_new _ _) ?_); focus (simp; done)) | ((with_reducible refine lt_eq (lt_old _ _ _) ?_); focus (simp; done)) | ((with_reducible refine lt_eq (held_lt_d HBc.out) ?_); focus (simp; done)) | ((with_reducible refine lt_eq (held_lt2_d HBc.out) ?_); focus (simp; done)) | ((with_reducible refine lt_eq (held_lt HBc.out) ?_); focus (simp; done)) | ((with_reducible refine lt_eq (held_lt2 HBc.out) ?_); focus (simp; done)) | fail); (refine held_below (F := wr.heap.size) (p := .int .i64 p) (v := .int .i64 v) ?_; assumption); rintro e w6 ⟨rfl, hb⟩; refine held_have (held_step (V := V) (F := wr.heap.size) (p := .int .i64 p) (v := .int .i64 v) ?_ hb) ?_; assumption; intro hs6; have HBc := Box.mk hb; clear hb))
          all_goals
            have HBY : Box (Below V.heap.size V w6) := ⟨by first | assumption | exact held_below (F := wr.heap.size) (p := .int .i64 p) (v := .int .i64 v) (by assumption)⟩
            go_wp2
            go_roundw
            case rel => exact ⟨i + 1, k ++ (A ++ B), by omega, by go_num, by simp only [strb_app], by simp only [List.length_append]; omega, HX2, HBY⟩
            case measure => simp [intOf] <;> omega
        · obtain rfl : n4 = i := by omega
          have hii : ¬ (n4 : Int) < n4 := by omega
          have HF2 : Box (k = textU t) := ⟨by rw [HX.out, HE2.out, List.take_of_length_le (by have := (HKF.out wr HBR.out).1; omega)]⟩
          clear HX
          go_wp2
          go_ret
          exact ⟨by rw [HE.out, ← HF2.out]; rfl, HBW.out _ HBR.out⟩

end Go.Proofs.YtimeodjfihpgeaaDoor
