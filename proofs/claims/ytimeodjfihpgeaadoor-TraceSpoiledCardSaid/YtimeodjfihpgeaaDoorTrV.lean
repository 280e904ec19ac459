/-
  Records of ticks: the walk of the document's 'Parse'.
-/
import Derived.Test.YtimeodjfihpgeaaDoorTrU
import Derived.Laws.ResultCell
namespace Go.Proofs.YtimeodjfihpgeaaDoor
open Go.RowKit

theorem ints_snoc (l : List Int) (x : Int) : ints (l ++ [x]) = ints l ++ [.int .i64 x] := by simp [ints]
/-- A record that is being read: its block, its rows. -/
structure TRow (w : World) (B TB : Nat) (t : Tk) (a1 : Option Addr) (n1 c1 : Nat) (a2 : Option Addr) (n2 c2 : Nat) (a3 : Option Addr) (n3 c3 : Nat) (a4 : Option Addr) (n4 c4 : Nat) : Prop where
  blk : w.heap[TB]? = some (.cells #[.int .i64 t.who, .slice a1 n1 c1, .slice a2 n2 c2, .slice a3 n3 c3, .slice a4 n4 c4] 27 (0, 0))
  r1 : w.ownsRow B 3 1 (.slice a1 n1 c1) n1 (ints t.dn)
  r2 : w.ownsRow B 3 1 (.slice a2 n2 c2) n2 (ints t.ct)
  r3 : w.ownsRow B 3 1 (.slice a3 n3 c3) n3 (ints t.ms)
  r4 : w.ownsRow B 36 3 (.slice a4 n4 c4) n4 (fc3 t.fs)
  low : TB < B
  d12 : ∀ k, (Value.slice a1 n1 c1).ownBlock = some k → (Value.slice a2 n2 c2).ownBlock = some k → False
  d13 : ∀ k, (Value.slice a1 n1 c1).ownBlock = some k → (Value.slice a3 n3 c3).ownBlock = some k → False
  d14 : ∀ k, (Value.slice a1 n1 c1).ownBlock = some k → (Value.slice a4 n4 c4).ownBlock = some k → False
  d23 : ∀ k, (Value.slice a2 n2 c2).ownBlock = some k → (Value.slice a3 n3 c3).ownBlock = some k → False
  d24 : ∀ k, (Value.slice a2 n2 c2).ownBlock = some k → (Value.slice a4 n4 c4).ownBlock = some k → False
  d34 : ∀ k, (Value.slice a3 n3 c3).ownBlock = some k → (Value.slice a4 n4 c4).ownBlock = some k → False
section
variable {w w' : World} {B TB : Nat} {t : Tk} {a1 : Option Addr} {n1 c1 : Nat} {a2 : Option Addr} {n2 c2 : Nat} {a3 : Option Addr} {n3 c3 : Nat} {a4 : Option Addr} {n4 c4 : Nat}
theorem TRow.later (h : TRow w B TB t a1 n1 c1 a2 n2 c2 a3 n3 c3 a4 n4 c4) (hb : ∀ k, TB ≤ k → k < w.heap.size → w'.heap[k]? = w.heap[k]?) : TRow w' B TB t a1 n1 c1 a2 n2 c2 a3 n3 c3 a4 n4 c4 :=
  ⟨(hb TB (Nat.le_refl _) (lt_blk h.blk)).trans h.blk, ownsRow_fr h.r1 (fun g hg => hb g (by have := (ownsRow_lt h.r1 hg).1; have := h.low; omega) (ownsRow_lt h.r1 hg).2), ownsRow_fr h.r2 (fun g hg => hb g (by have := (ownsRow_lt h.r2 hg).1; have := h.low; omega) (ownsRow_lt h.r2 hg).2), ownsRow_fr h.r3 (fun g hg => hb g (by have := (ownsRow_lt h.r3 hg).1; have := h.low; omega) (ownsRow_lt h.r3 hg).2), ownsRow_fr h.r4 (fun g hg => hb g (by have := (ownsRow_lt h.r4 hg).1; have := h.low; omega) (ownsRow_lt h.r4 hg).2), h.low, h.d12, h.d13, h.d14, h.d23, h.d24, h.d34⟩
theorem TRow.tk (h : TRow w B TB t a1 n1 c1 a2 n2 c2 a3 n3 c3 a4 n4 c4) (h1 : n1 ≤ 1000000) (h2 : n2 ≤ 1000000) (h3 : n3 ≤ 1000000) (h4 : n4 ≤ 1000000) : TkAt w t a1 n1 a2 n2 a3 n3 a4 n4 := ⟨nums_of h.r1 h1, nums_of h.r2 h2, nums_of h.r3 h3, fates_of h.r4 h4⟩

theorem TRow.app1 {g c : Nat} {x : Int} (h : TRow w B TB t a1 n1 c1 a2 n2 c2 a3 n3 c3 a4 n4 c4) (hg : w.grownBy w' (Value.slice a1 n1 c1).ownBlock) (ho : w'.ownsRow B 3 1 (.slice (some ⟨g, 0, none⟩) (n1 + 1) c) (n1 + 1) (ints t.dn ++ [.int .i64 x])) (hn : (Value.slice a1 n1 c1).ownBlock = some g ∨ w.heap.size ≤ g) :
    TRow (w'.setCell ⟨TB, 1, none⟩ (.slice (some ⟨g, 0, none⟩) (n1 + 1) c)) B TB ⟨t.who, t.dn ++ [x], t.ct, t.ms, t.fs⟩ (some ⟨g, 0, none⟩) (n1 + 1) c a2 n2 c2 a3 n3 c3 a4 n4 c4 := by
  have hb : w'.heap[TB]? = some (.cells #[.int .i64 t.who, .slice a1 n1 c1, .slice a2 n2 c2, .slice a3 n3 c3, .slice a4 n4 c4] 27 (0, 0)) := (hg.block TB (lt_blk h.blk) (fun e => by have := (ownsRow_lt h.r1 e.symm).1; have := h.low; omega)).trans h.blk
  have hnew : ∀ q, (Value.slice (some ⟨g, 0, none⟩) (n1 + 1) c).ownBlock = some q → q < w.heap.size → ((Value.slice a1 n1 c1).ownBlock = some q → False) → False := fun q hq hl hd => by
    obtain rfl : g = q := by simpa [Value.ownBlock] using hq
    rcases hn with e | e
    · exact hd e
    · omega
  exact ⟨by rw [blk_set hb]; simp, (by show World.ownsRow _ _ _ _ _ _ (ints (t.dn ++ [x])); rw [ints_snoc]; exact ownsRow_fr ho (fun g' hg' => blk_set_ne _ (by have := (ownsRow_lt ho hg').1; have := h.low; omega))), (ownsRow_fr h.r2 (fun q hq' => (blk_set_ne _ (by have := (ownsRow_lt h.r2 hq').1; have := h.low; omega)).trans (hg.block q (ownsRow_lt h.r2 hq').2 (fun e => (fun hq => h.d12 q hq hq') e.symm)))), (ownsRow_fr h.r3 (fun q hq' => (blk_set_ne _ (by have := (ownsRow_lt h.r3 hq').1; have := h.low; omega)).trans (hg.block q (ownsRow_lt h.r3 hq').2 (fun e => (fun hq => h.d13 q hq hq') e.symm)))), (ownsRow_fr h.r4 (fun q hq' => (blk_set_ne _ (by have := (ownsRow_lt h.r4 hq').1; have := h.low; omega)).trans (hg.block q (ownsRow_lt h.r4 hq').2 (fun e => (fun hq => h.d14 q hq hq') e.symm)))), h.low, (fun q hq hj => hnew q hq (ownsRow_lt h.r2 hj).2 (fun hk => h.d12 q hk hj)), (fun q hq hj => hnew q hq (ownsRow_lt h.r3 hj).2 (fun hk => h.d13 q hk hj)), (fun q hq hj => hnew q hq (ownsRow_lt h.r4 hj).2 (fun hk => h.d14 q hk hj)), h.d23, h.d24, h.d34⟩
theorem TRow.app2 {g c : Nat} {x : Int} (h : TRow w B TB t a1 n1 c1 a2 n2 c2 a3 n3 c3 a4 n4 c4) (hg : w.grownBy w' (Value.slice a2 n2 c2).ownBlock) (ho : w'.ownsRow B 3 1 (.slice (some ⟨g, 0, none⟩) (n2 + 1) c) (n2 + 1) (ints t.ct ++ [.int .i64 x])) (hn : (Value.slice a2 n2 c2).ownBlock = some g ∨ w.heap.size ≤ g) :
    TRow (w'.setCell ⟨TB, 2, none⟩ (.slice (some ⟨g, 0, none⟩) (n2 + 1) c)) B TB ⟨t.who, t.dn, t.ct ++ [x], t.ms, t.fs⟩ a1 n1 c1 (some ⟨g, 0, none⟩) (n2 + 1) c a3 n3 c3 a4 n4 c4 := by
  have hb : w'.heap[TB]? = some (.cells #[.int .i64 t.who, .slice a1 n1 c1, .slice a2 n2 c2, .slice a3 n3 c3, .slice a4 n4 c4] 27 (0, 0)) := (hg.block TB (lt_blk h.blk) (fun e => by have := (ownsRow_lt h.r2 e.symm).1; have := h.low; omega)).trans h.blk
  have hnew : ∀ q, (Value.slice (some ⟨g, 0, none⟩) (n2 + 1) c).ownBlock = some q → q < w.heap.size → ((Value.slice a2 n2 c2).ownBlock = some q → False) → False := fun q hq hl hd => by
    obtain rfl : g = q := by simpa [Value.ownBlock] using hq
    rcases hn with e | e
    · exact hd e
    · omega
  exact ⟨by rw [blk_set hb]; simp, (ownsRow_fr h.r1 (fun q hq' => (blk_set_ne _ (by have := (ownsRow_lt h.r1 hq').1; have := h.low; omega)).trans (hg.block q (ownsRow_lt h.r1 hq').2 (fun e => (fun hq => h.d12 q hq' hq) e.symm)))), (by show World.ownsRow _ _ _ _ _ _ (ints (t.ct ++ [x])); rw [ints_snoc]; exact ownsRow_fr ho (fun g' hg' => blk_set_ne _ (by have := (ownsRow_lt ho hg').1; have := h.low; omega))), (ownsRow_fr h.r3 (fun q hq' => (blk_set_ne _ (by have := (ownsRow_lt h.r3 hq').1; have := h.low; omega)).trans (hg.block q (ownsRow_lt h.r3 hq').2 (fun e => (fun hq => h.d23 q hq hq') e.symm)))), (ownsRow_fr h.r4 (fun q hq' => (blk_set_ne _ (by have := (ownsRow_lt h.r4 hq').1; have := h.low; omega)).trans (hg.block q (ownsRow_lt h.r4 hq').2 (fun e => (fun hq => h.d24 q hq hq') e.symm)))), h.low, (fun q hj hq => hnew q hq (ownsRow_lt h.r1 hj).2 (fun hk => h.d12 q hj hk)), h.d13, h.d14, (fun q hq hj => hnew q hq (ownsRow_lt h.r3 hj).2 (fun hk => h.d23 q hk hj)), (fun q hq hj => hnew q hq (ownsRow_lt h.r4 hj).2 (fun hk => h.d24 q hk hj)), h.d34⟩
theorem TRow.app3 {g c : Nat} {x : Int} (h : TRow w B TB t a1 n1 c1 a2 n2 c2 a3 n3 c3 a4 n4 c4) (hg : w.grownBy w' (Value.slice a3 n3 c3).ownBlock) (ho : w'.ownsRow B 3 1 (.slice (some ⟨g, 0, none⟩) (n3 + 1) c) (n3 + 1) (ints t.ms ++ [.int .i64 x])) (hn : (Value.slice a3 n3 c3).ownBlock = some g ∨ w.heap.size ≤ g) :
    TRow (w'.setCell ⟨TB, 3, none⟩ (.slice (some ⟨g, 0, none⟩) (n3 + 1) c)) B TB ⟨t.who, t.dn, t.ct, t.ms ++ [x], t.fs⟩ a1 n1 c1 a2 n2 c2 (some ⟨g, 0, none⟩) (n3 + 1) c a4 n4 c4 := by
  have hb : w'.heap[TB]? = some (.cells #[.int .i64 t.who, .slice a1 n1 c1, .slice a2 n2 c2, .slice a3 n3 c3, .slice a4 n4 c4] 27 (0, 0)) := (hg.block TB (lt_blk h.blk) (fun e => by have := (ownsRow_lt h.r3 e.symm).1; have := h.low; omega)).trans h.blk
  have hnew : ∀ q, (Value.slice (some ⟨g, 0, none⟩) (n3 + 1) c).ownBlock = some q → q < w.heap.size → ((Value.slice a3 n3 c3).ownBlock = some q → False) → False := fun q hq hl hd => by
    obtain rfl : g = q := by simpa [Value.ownBlock] using hq
    rcases hn with e | e
    · exact hd e
    · omega
  exact ⟨by rw [blk_set hb]; simp, (ownsRow_fr h.r1 (fun q hq' => (blk_set_ne _ (by have := (ownsRow_lt h.r1 hq').1; have := h.low; omega)).trans (hg.block q (ownsRow_lt h.r1 hq').2 (fun e => (fun hq => h.d13 q hq' hq) e.symm)))), (ownsRow_fr h.r2 (fun q hq' => (blk_set_ne _ (by have := (ownsRow_lt h.r2 hq').1; have := h.low; omega)).trans (hg.block q (ownsRow_lt h.r2 hq').2 (fun e => (fun hq => h.d23 q hq' hq) e.symm)))), (by show World.ownsRow _ _ _ _ _ _ (ints (t.ms ++ [x])); rw [ints_snoc]; exact ownsRow_fr ho (fun g' hg' => blk_set_ne _ (by have := (ownsRow_lt ho hg').1; have := h.low; omega))), (ownsRow_fr h.r4 (fun q hq' => (blk_set_ne _ (by have := (ownsRow_lt h.r4 hq').1; have := h.low; omega)).trans (hg.block q (ownsRow_lt h.r4 hq').2 (fun e => (fun hq => h.d34 q hq hq') e.symm)))), h.low, h.d12, (fun q hj hq => hnew q hq (ownsRow_lt h.r1 hj).2 (fun hk => h.d13 q hj hk)), h.d14, (fun q hj hq => hnew q hq (ownsRow_lt h.r2 hj).2 (fun hk => h.d23 q hj hk)), h.d24, (fun q hq hj => hnew q hq (ownsRow_lt h.r4 hj).2 (fun hk => h.d34 q hk hj))⟩
theorem TRow.app4 {g c : Nat} {x : (Int × Int × Int)} (h : TRow w B TB t a1 n1 c1 a2 n2 c2 a3 n3 c3 a4 n4 c4) (hg : w.grownBy w' (Value.slice a4 n4 c4).ownBlock) (ho : w'.ownsRow B 36 3 (.slice (some ⟨g, 0, none⟩) (n4 + 1) c) (n4 + 1) (fc3 t.fs ++ [.int .i64 x.1, .int .i64 x.2.1, .int .i64 x.2.2])) (hn : (Value.slice a4 n4 c4).ownBlock = some g ∨ w.heap.size ≤ g) :
    TRow (w'.setCell ⟨TB, 4, none⟩ (.slice (some ⟨g, 0, none⟩) (n4 + 1) c)) B TB ⟨t.who, t.dn, t.ct, t.ms, t.fs ++ [x]⟩ a1 n1 c1 a2 n2 c2 a3 n3 c3 (some ⟨g, 0, none⟩) (n4 + 1) c := by
  have hb : w'.heap[TB]? = some (.cells #[.int .i64 t.who, .slice a1 n1 c1, .slice a2 n2 c2, .slice a3 n3 c3, .slice a4 n4 c4] 27 (0, 0)) := (hg.block TB (lt_blk h.blk) (fun e => by have := (ownsRow_lt h.r4 e.symm).1; have := h.low; omega)).trans h.blk
  have hnew : ∀ q, (Value.slice (some ⟨g, 0, none⟩) (n4 + 1) c).ownBlock = some q → q < w.heap.size → ((Value.slice a4 n4 c4).ownBlock = some q → False) → False := fun q hq hl hd => by
    obtain rfl : g = q := by simpa [Value.ownBlock] using hq
    rcases hn with e | e
    · exact hd e
    · omega
  exact ⟨by rw [blk_set hb]; simp, (ownsRow_fr h.r1 (fun q hq' => (blk_set_ne _ (by have := (ownsRow_lt h.r1 hq').1; have := h.low; omega)).trans (hg.block q (ownsRow_lt h.r1 hq').2 (fun e => (fun hq => h.d14 q hq' hq) e.symm)))), (ownsRow_fr h.r2 (fun q hq' => (blk_set_ne _ (by have := (ownsRow_lt h.r2 hq').1; have := h.low; omega)).trans (hg.block q (ownsRow_lt h.r2 hq').2 (fun e => (fun hq => h.d24 q hq' hq) e.symm)))), (ownsRow_fr h.r3 (fun q hq' => (blk_set_ne _ (by have := (ownsRow_lt h.r3 hq').1; have := h.low; omega)).trans (hg.block q (ownsRow_lt h.r3 hq').2 (fun e => (fun hq => h.d34 q hq' hq) e.symm)))), (by show World.ownsRow _ _ _ _ _ _ (fc3 (t.fs ++ [x])); rw [fc3_snoc]; exact ownsRow_fr ho (fun g' hg' => blk_set_ne _ (by have := (ownsRow_lt ho hg').1; have := h.low; omega))), h.low, h.d12, h.d13, (fun q hj hq => hnew q hq (ownsRow_lt h.r1 hj).2 (fun hk => h.d14 q hj hk)), h.d23, (fun q hj hq => hnew q hq (ownsRow_lt h.r2 hj).2 (fun hk => h.d24 q hj hk)), (fun q hj hq => hnew q hq (ownsRow_lt h.r3 hj).2 (fun hk => h.d34 q hj hk))⟩
end

theorem numberF_rng (l : Bs) : -1 ≤ (numberF l).1 ∧ (numberF l).1 ≤ 2147483647 := by
  unfold numberF
  cases h : numV (l.takeWhile (fun c => decide (digB c))) with
  | none => simp only; omega
  | some n => have := numV_le h; simp only; omega
theorem rnum25_at (s : ByteArray) (hs : s.size ≤ 1000000) (l : Bs) (hl : l = s.data.toList) (a : Nat) (b : Int) (hb : b = (a : Int)) (ha : a ≤ s.size) (w : World) :
    Calls Tryd.prog 31 #[.string s, .int .i64 b] w fun e w' => e = .returned (.tuple #[.int .i64 (numberF (l.drop a)).1, .int .i64 (numE l a)]) ∧ w = w' := by
  subst hb
  subst hl
  exact rnum25_any s hs a ha w
theorem scan_step {l : Bs} {i k : Nat} {t : Tk} (hi : i < l.length) {c : UInt8} (hc : l[i] = c) : scanF (k + 1) (l.drop i) t =
    if (numberF (l.drop (i + 1))).1 < 0 then none
    else if c = 43 then scanF k (l.drop (numE l (i + 1))) ⟨t.who, t.dn ++ [(numberF (l.drop (i + 1))).1], t.ct, t.ms, t.fs⟩
    else if c = 47 then scanF k (l.drop (numE l (i + 1))) ⟨t.who, t.dn, t.ct ++ [(numberF (l.drop (i + 1))).1], t.ms, t.fs⟩
    else if c = 33 then scanF k (l.drop (numE l (i + 1))) ⟨t.who, t.dn, t.ct, t.ms ++ [(numberF (l.drop (i + 1))).1], t.fs⟩
    else if c = 61 then match l.drop (numE l (i + 1)) with
      | [] => none
      | d :: q => if (numberF q).1 < 0 then none else scanF k (numberF q).2 ⟨t.who, t.dn, t.ct, t.ms, t.fs ++ [((numberF (l.drop (i + 1))).1, if d = 100 then 1 else 2, (numberF q).1)]⟩
    else none := by
  rw [List.drop_eq_getElem_cons hi, hc, scanF, (numE_drop (l := l) (a := i + 1) (by omega)).1]
  generalize l.drop (numE l (i + 1)) = q
  cases q <;> rfl
theorem fate_step {l : Bs} {j : Nat} {α : Type} {x : α} {f : UInt8 → Bs → α} (hj : j < l.length) : (match l.drop j with | [] => x | d :: q => f d q) = f l[j] (l.drop (j + 1)) := by
  rw [List.drop_eq_getElem_cons hj]
theorem fate_none {l : Bs} {j : Nat} {α : Type} {x : α} {f : UInt8 → Bs → α} (hj : l.length ≤ j) : (match l.drop j with | [] => x | d :: q => f d q) = x := by
  rw [List.drop_eq_nil_of_le hj]
theorem no_law {l : Bs} (h : rparseF l = none) : ∀ t, mayT t = true → textU t ≠ l := fun t ht e => by
  have := rparse_text ht
  rw [e, h] at this
  cases this
theorem some_law {l : Bs} {t : Tk} (h : rparseF l = some t) : ∀ t', mayT t' = true → textU t' = l → t' = t := fun t' ht e => by
  have := rparse_text ht
  rw [e, h] at this
  exact (Option.some.inj this).symm

set_option maxHeartbeats 16000000 in
set_option maxRecDepth 100000 in
theorem rparse25_any (s : ByteArray) (hs : s.size ≤ 4990) (w : World) : Calls Tryd.prog 14 #[.string s] w fun e w' => TOut s.data.toList w e w' := by
  obtain ⟨i0, hi, hz0, hzz1, hzz2⟩ := info_parts Tryd.infoI
  obtain ⟨j0, hj, hy0, hyy1, hyy2⟩ := info_parts Tryd.infoFate
  obtain ⟨R0, hR0⟩ : ∃ R0, w.heap.size = R0 := ⟨_, rfl⟩
  have HR0 := Box.mk hR0
  have HX0 : Box ((w.alloc (.cells #[.int .i64 0, .slice none 0 0, .slice none 0 0, .slice none 0 0, .slice none 0 0] 27)).heap[R0]? = some (.cells #[.int .i64 0, .slice none 0 0, .slice none 0 0, .slice none 0 0, .slice none 0 0] 27 (0, 0))) := ⟨by rw [← hR0]; exact blk_new _ _⟩
  have HB0 : Box (Below R0 w (w.alloc (.cells #[.int .i64 0, .slice none 0 0, .slice none 0 0, .slice none 0 0, .slice none 0 0] 27))) := ⟨(Below.refl _ _).alloc (by omega) _⟩
  unfold TOut
  rw [hR0]
  clear hR0
  obtain ⟨l, hl⟩ : ∃ l, l = s.data.toList := ⟨_, rfl⟩
  have hsz : s.size = l.length := by rw [hl]; exact bts_size s
  rw [← hl]
  have HSL := Box.mk hl
  have HSZ := Box.mk hsz
  obtain ⟨R, hR⟩ : ∃ R, R = rparseF l := ⟨_, rfl⟩
  have HRR := Box.mk hR
  clear hl hR hsz
  go_enter Tryd.func14, Tryd.ntmps14
  go_upto_region 1 with fail
  generalize hV0 : (w.alloc (.cells #[.int .i64 0, .slice none 0 0, .slice none 0 0, .slice none 0 0, .slice none 0 0] 27)) = V0 at HX0 HB0 ⊢
  clear hV0
  try rw [HR0.out]
  have hRL : R0 < V0.heap.size := lt_blk HX0.out
  cases hlc : l with
  | nil =>
    obtain rfl : s = ⟨#[]⟩ := by
      have e : s.data.toList = [] := HSL.out.symm.trans hlc
      cases s with | mk d => cases d with | mk q => simp only at e; subst e; rfl
    have r0 : World.cell? V0 ⟨R0, 0, none⟩ = some (.int .i64 0) := (cell_blk HX0.out 0).trans rfl
    have r1 : World.cell? V0 ⟨R0, 1, none⟩ = some (.slice none 0 0) := (cell_blk HX0.out 1).trans rfl
    have r2 : World.cell? V0 ⟨R0, 2, none⟩ = some (.slice none 0 0) := (cell_blk HX0.out 2).trans rfl
    have r3 : World.cell? V0 ⟨R0, 3, none⟩ = some (.slice none 0 0) := (cell_blk HX0.out 3).trans rfl
    have r4 : World.cell? V0 ⟨R0, 4, none⟩ = some (.slice none 0 0) := (cell_blk HX0.out 4).trans rfl
    have f0 := free_blk HX0.out 0
    have f1 := free_blk HX0.out 1
    have f2 := free_blk HX0.out 2
    have f3 := free_blk HX0.out 3
    have f4 := free_blk HX0.out 4
    go_wp2
    obtain ⟨qb, hfin, hbw⟩ := res5 HX0.out HB0.out (a := .int .i64 0) (b := .slice none 0 0) (c := .slice none 0 0) (d := .slice none 0 0) (e := .slice none 0 0)
    have q0 := cell_blk qb 0
    have q1 := cell_blk qb 1
    have q2 := cell_blk qb 2
    have q3 := cell_blk qb 3
    have q4 := cell_blk qb 4
    simp only [List.getElem?_toArray, List.getElem?_cons_zero, List.getElem?_cons_succ] at q0 q1 q2 q3 q4
    have HBW := Box.mk hbw
    have HFI := Box.mk hfin
    clear hbw hfin qb r0 r1 r2 r3 r4 f0 f1 f2 f3 f4
    refine bodyPost_ret (v := .tuple #[.agg #[.int .i64 0, .slice none 0 0, .slice none 0 0, .slice none 0 0, .slice none 0 0], .int .i64 9]) (by simp [results, Tryd.results14, go_sem, q0, q1, q2, q3, q4]) rfl ⟨HBW.out, .inr ⟨(fun t _ => text_ne), rfl⟩⟩
  | cons c r =>
    have h0s : 0 < s.size := by rw [HSZ.out, hlc]; simp
    have hs0 : s[0]'h0s = c := by
      have h1 := bts_get (s := s) h0s
      have h2 : s.data.toList = c :: r := HSL.out.symm.trans hlc
      simp only [h2, List.getElem_cons_zero] at h1
      exact h1.symm
    have hne : (s.toList == []) = false := by
      have h2 : s.data.toList = c :: r := HSL.out.symm.trans hlc
      rw [Lib.toList_data, h2]; rfl
    have hstart : startF l = (if c = 116 then ((numberF (l.drop 1)).1, (numberF (l.drop 1)).2) else if c = 115 then (100 + (numberF (l.drop 1)).1, (numberF (l.drop 1)).2) else (-1, l.drop 1)) := by rw [hlc]; rfl
    have hN := numE_drop (l := l) (a := 1) (by rw [hlc]; simp)
    have hnum := rnum25_at s (by omega) l HSL.out 1 1 rfl (by omega)
    rw [hN.1] at hstart
    have HNU := Box.mk hnum
    have HST := Box.mk hstart
    have hE1 : 1 ≤ numE l 1 := hN.2.1
    have hE2 : numE l 1 ≤ l.length := hN.2.2.1
    clear hnum hstart hN
    have hl1 : 1 ≤ l.length := by rw [hlc]; simp
    have hll : l.length ≤ 4990 := by have := HSZ.out; omega
    clear hlc
    go_upto_region 4 with fail
    have hTR : R0 < V0.heap.size := hRL
    have HX1 := Box.mk (blk_alloc (o := .cells #[.int .i64 (-1), .slice none 0 0, .slice none 0 0, .slice none 0 0, .slice none 0 0] 27) HX0.out)
    have HT1 : Box ((World.alloc V0 (.cells #[.int .i64 (-1), .slice none 0 0, .slice none 0 0, .slice none 0 0, .slice none 0 0] 27)).heap[V0.heap.size]? = some (.cells #[.int .i64 (-1), .slice none 0 0, .slice none 0 0, .slice none 0 0, .slice none 0 0] 27 (0, 0))) := ⟨blk_new _ _⟩
    have HB1 : Box (Below R0 w (World.alloc V0 (.cells #[.int .i64 (-1), .slice none 0 0, .slice none 0 0, .slice none 0 0, .slice none 0 0] 27))) := ⟨HB0.out.alloc (by omega) _⟩
    have HS1 : Box ((World.alloc V0 (.cells #[.int .i64 (-1), .slice none 0 0, .slice none 0 0, .slice none 0 0, .slice none 0 0] 27)).heap.size = V0.heap.size + 1) := ⟨by simp⟩
    generalize World.alloc V0 (.cells #[.int .i64 (-1), .slice none 0 0, .slice none 0 0, .slice none 0 0, .slice none 0 0] 27) = V1 at HX1 HT1 HB1 HS1 ⊢
    obtain ⟨TB, hTB⟩ : ∃ TB, TB = V0.heap.size := ⟨_, rfl⟩
    rw [← hTB] at HT1 hTR HS1 ⊢
    clear hTB HX0 HB0 hRL
    have hE1i : (1 : Int) ≤ numE l 1 := by omega
    obtain ⟨N1, hN1⟩ : ∃ N, N = (numberF (l.drop 1)).1 := ⟨_, rfl⟩
    obtain ⟨E1, hE1'⟩ : ∃ E, E = numE l 1 := ⟨_, rfl⟩
    have hNb := numberF_rng (l.drop 1)
    rw [← hN1] at hNb
    rw [← hN1, ← hE1'] at HNU HST
    rw [← hE1'] at hE1 hE2 hE1i
    clear hN1 hE1'
    have hc256 : c.toNat < 256 := c.toNat_lt
    have hst : ∃ (I0 : Nat) (who : Int), Box (R = scanF (l.length + 1) (l.drop I0) ⟨who, [], [], [], []⟩) ∧ 1 ≤ I0 ∧ I0 ≤ l.length ∧ (((((s[0]'h0s).toNat : Int) == 116) = true ∧ (((s[0]'h0s).toNat : Int) == 115) = false ∧ I0 = E1 ∧ who = N1) ∨ ((((s[0]'h0s).toNat : Int) == 116) = false ∧ (((s[0]'h0s).toNat : Int) == 115) = true ∧ I0 = E1 ∧ who = 100 + N1) ∨ ((((s[0]'h0s).toNat : Int) == 116) = false ∧ (((s[0]'h0s).toNat : Int) == 115) = false ∧ I0 = 1 ∧ who = -1)) := by
      have hR := HRR.out
      unfold rparseF at hR
      rw [HST.out] at hR
      rw [hs0]
      by_cases e1 : c = 116
      · rw [if_pos e1] at hR
        subst e1
        exact ⟨E1, N1, ⟨hR⟩, hE1, hE2, .inl ⟨rfl, rfl, rfl, rfl⟩⟩
      · have e1' : ((c.toNat : Int) == 116) = false := beq_eq_false_iff_ne.2 (fun e => e1 (UInt8.toNat_inj.1 (by show c.toNat = 116; omega)))
        rw [if_neg e1] at hR
        by_cases e2 : c = 115
        · rw [if_pos e2] at hR
          subst e2
          exact ⟨E1, 100 + N1, ⟨hR⟩, hE1, hE2, .inr (.inl ⟨rfl, rfl, rfl, rfl⟩)⟩
        · have e2' : ((c.toNat : Int) == 115) = false := beq_eq_false_iff_ne.2 (fun e => e2 (UInt8.toNat_inj.1 (by show c.toNat = 115; omega)))
          rw [if_neg e2] at hR
          exact ⟨1, -1, ⟨hR⟩, by omega, hl1, .inr (.inr ⟨e1', e2', rfl, rfl⟩)⟩
    obtain ⟨I0, who, HR0, hI1, hI2, hcs⟩ := hst
    clear HST
    have t0 : World.cell? V1 ⟨TB, 0, none⟩ = some (.int .i64 (-1)) := (cell_blk HT1.out 0).trans rfl
    have tf := free_blk HT1.out 0
    clear hs0 hc256
    rcases hcs with ⟨q1, q2, hq3, hq4⟩ | ⟨q1, q2, hq3, hq4⟩ | ⟨q1, q2, hq3, hq4⟩
    · go_upto_block 0 with (go_at_call 31; (with_reducible refine (HNU.out V1).mono ?_); rintro e w3 ⟨rfl, rfl⟩)
      have HT2 : Box ((World.setCell V1 ⟨TB, 0, none⟩ (.int .i64 N1)).heap[TB]? = some (.cells #[.int .i64 (N1), .slice none 0 0, .slice none 0 0, .slice none 0 0, .slice none 0 0] 27 (0, 0))) := ⟨by rw [blk_set HT1.out]; simp⟩
      have HX2 : Box ((World.setCell V1 ⟨TB, 0, none⟩ (.int .i64 N1)).heap[R0]? = some (.cells #[.int .i64 0, .slice none 0 0, .slice none 0 0, .slice none 0 0, .slice none 0 0] 27 (0, 0))) := ⟨(blk_set_ne _ (by omega)).trans HX1.out⟩
      have HB2 : Box (Below R0 w (World.setCell V1 ⟨TB, 0, none⟩ (.int .i64 N1))) := ⟨HB1.out.trans (Fr.below ((Fr.refl (fun k => k = TB) V1).setCell (p := ⟨TB, 0, none⟩) (.inl rfl) _) (by have := lt_blk HT1.out; omega) (fun k _ e => by omega))⟩
      generalize (World.setCell V1 ⟨TB, 0, none⟩ (.int .i64 N1)) = V2 at HT2 HX2 HB2 ⊢
      clear HX1 HT1 HB1 HS1 t0 tf
      subst hq3
      subst hq4
      have hV2 : TB < V2.heap.size := lt_blk HT2.out
      go_wp2
      go_loopw [5, 8, 9, 10, 11, 12] (fun s5 _ _ _ _ _ wr => ∃ (i k : Nat) (t : Tk) (a1 : Option Addr) (n1 c1 : Nat) (a2 : Option Addr) (n2 c2 : Nat) (a3 : Option Addr) (n3 c3 : Nat) (a4 : Option Addr) (n4 c4 : Nat), i ≤ l.length ∧ s5 = .int .i64 i ∧ n1 + n2 + n3 + n4 ≤ i ∧ l.length - i < k ∧ Box (TRow wr V2.heap.size TB t a1 n1 c1 a2 n2 c2 a3 n3 c3 a4 n4 c4) ∧ Box (scanF k (l.drop i) t = R) ∧ Box (Fr (fun k => k = TB) V2 wr)) (fun s5 _ _ _ _ _ _ => l.length - (intOf s5).toNat)
      case atStart => exact ⟨I0, l.length + 1, ⟨who, [], [], [], []⟩, none, 0, 0, none, 0, 0, none, 0, 0, none, 0, 0, hI2, rfl, by omega, by omega, ⟨⟨HT2.out, World.ownsRow_nil _ _ _ _, World.ownsRow_nil _ _ _ _, World.ownsRow_nil _ _ _ _, World.ownsRow_nil _ _ _ _, hV2, fun k h => (by cases h), fun k h => (by cases h), fun k h => (by cases h), fun k h => (by cases h), fun k h => (by cases h), fun k h => (by cases h)⟩⟩, ⟨HR0.out.symm⟩, ⟨Fr.refl _ _⟩⟩
      case round =>
        obtain ⟨i, k, t, a1, n1, c1, a2, n2, c2, a3, n3, c3, a4, n4, c4, hil, rfl, hns, hk, HTR, HSC, HFR⟩ := hrel
        clear HR0 HT2
        by_cases hlt : i < l.length
        · have hp : i < s.size := by rw [HSZ.out]; exact hlt
          have hii : (i : Int) < s.size := by omega
          obtain ⟨k, rfl⟩ : ∃ k', k = k' + 1 := ⟨k - 1, by omega⟩
          have hnum := rnum25_at s (by omega) l HSL.out (i + 1) ((i : Int) + 1) (by simp) (by omega)
          obtain ⟨_, hEa, hEb, hEc⟩ := numE_drop (l := l) (a := i + 1) (by omega)
          have hsc := HSC.out
          have hsi : l[i] = s[i]'hp := by
            have h1 := bts_get (s := s) hp
            have h2 := HSL.out
            subst h2
            exact h1
          rw [scan_step hlt hsi] at hsc
          generalize (numberF (l.drop (i + 1))).1 = N at hnum hsc hEc
          generalize numE l (i + 1) = E at hnum hsc hEa hEb hEc
          have HNU := Box.mk hnum
          clear hsi HSC hnum
          have hiv : (0 : Int) ≤ i := by omega
          have hiw : (i : Int) + 1 ≤ s.size := by omega
          by_cases hn : N < 0
          · rw [if_pos hn] at hsc
            have HNO : Box (∀ t, mayT t = true → textU t ≠ l) := ⟨no_law (HRR.out.symm.trans hsc.symm)⟩
            clear hsc hEc
            have HXR := Box.mk ((HFR.out.blk HX2.out (by omega)))
            have HBR : Box (Below R0 w wr) := ⟨HB2.out.trans (HFR.out.below (by omega) (fun k _ e => by omega))⟩
            have r0 : World.cell? wr ⟨R0, 0, none⟩ = some (.int .i64 0) := (cell_blk HXR.out 0).trans rfl
            have r1 : World.cell? wr ⟨R0, 1, none⟩ = some (.slice none 0 0) := (cell_blk HXR.out 1).trans rfl
            have r2 : World.cell? wr ⟨R0, 2, none⟩ = some (.slice none 0 0) := (cell_blk HXR.out 2).trans rfl
            have r3 : World.cell? wr ⟨R0, 3, none⟩ = some (.slice none 0 0) := (cell_blk HXR.out 3).trans rfl
            have r4 : World.cell? wr ⟨R0, 4, none⟩ = some (.slice none 0 0) := (cell_blk HXR.out 4).trans rfl
            have f0 := free_blk HXR.out 0
            have f1 := free_blk HXR.out 1
            have f2 := free_blk HXR.out 2
            have f3 := free_blk HXR.out 3
            have f4 := free_blk HXR.out 4
            go_wp2_with (go_at_call 31; (with_reducible refine (HNU.out _).mono ?_); rintro e w3 ⟨rfl, rfl⟩)
            obtain ⟨qb, hfin, hbw⟩ := res5 HXR.out HBR.out (a := .int .i64 0) (b := .slice none 0 0) (c := .slice none 0 0) (d := .slice none 0 0) (e := .slice none 0 0)
            have q0 := cell_blk qb 0
            have q1 := cell_blk qb 1
            have q2 := cell_blk qb 2
            have q3 := cell_blk qb 3
            have q4 := cell_blk qb 4
            simp only [List.getElem?_toArray, List.getElem?_cons_zero, List.getElem?_cons_succ] at q0 q1 q2 q3 q4
            have HBW := Box.mk hbw
            have HFI := Box.mk hfin
            clear hbw hfin qb r0 r1 r2 r3 r4 f0 f1 f2 f3 f4
            refine bodyPost_ret (v := .tuple #[.agg #[.int .i64 0, .slice none 0 0, .slice none 0 0, .slice none 0 0, .slice none 0 0], .int .i64 9]) (by simp [results, Tryd.results14, go_sem, q0, q1, q2, q3, q4]) rfl ⟨HBW.out, .inr ⟨HNO.out, rfl⟩⟩
          · rw [if_neg hn] at hsc
            have hEd := hEc (by omega)
            clear hEc
            have hn0 : ¬ N < 0 := hn
            have hblk := HTR.out.blk
            have z0 : World.cell? wr ⟨TB, 0, none⟩ = some (.int .i64 t.who) := (cell_blk hblk 0).trans rfl
            have z1 : World.cell? wr ⟨TB, 1, none⟩ = some (.slice a1 n1 c1) := (cell_blk hblk 1).trans rfl
            have z2 : World.cell? wr ⟨TB, 2, none⟩ = some (.slice a2 n2 c2) := (cell_blk hblk 2).trans rfl
            have z3 : World.cell? wr ⟨TB, 3, none⟩ = some (.slice a3 n3 c3) := (cell_blk hblk 3).trans rfl
            have z4 : World.cell? wr ⟨TB, 4, none⟩ = some (.slice a4 n4 c4) := (cell_blk hblk 4).trans rfl
            have zf := free_blk hblk 0
            clear hblk
            have HSC := Box.mk hsc
            clear hsc
            go_upto_region 17 with (go_at_call 31; (with_reducible refine (HNU.out _).mono ?_); rintro e w3 ⟨rfl, rfl⟩)
            generalize s[i]'hp = c at HSC ⊢
            by_cases e1 : c = 43
            · subst e1
              have HSK : Box (scanF k (l.drop E) ⟨t.who, t.dn ++ [N], t.ct, t.ms, t.fs⟩ = R) := ⟨by have := HSC.out; rwa [if_pos rfl] at this⟩
              clear HSC
              have HTD : Box (TRow (World.alloc wr (.cells #[.int .i64 N] 3)) V2.heap.size TB t a1 n1 c1 a2 n2 c2 a3 n3 c3 a4 n4 c4) := ⟨HTR.out.later (fun k _ hk => Below.heap_alloc _ _ _ hk)⟩
              have HFD : Box (Fr (fun k => k = TB) V2 (World.alloc wr (.cells #[.int .i64 N] 3))) := ⟨HFR.out.alloc _⟩
              have hbase : V2.heap.size ≤ (World.alloc wr (.cells #[.int .i64 N] 3)).heap.size := HFD.out.size
              go_wp2_with (at_builtin; refine wpList_append_lies _ rfl (.tmp 64) (.tmp 66) 22 rfl V2.heap.size 3 i0 (.int .i64 0) 1 8 Tryd.underlying22 hi hz0 hzz1 hzz2 rfl (by decide) (.slice a1 n1 c1) n1 (ints t.dn) rfl HTD.out.r1 ⟨(World.heap wr).size, 0, none⟩ 1 1 [.int .i64 N] rfl rfl (World.news_of_block (cs := #[.int .i64 N]) (blk_new _ _)) ?h1q1 (by omega) ?b1q1 ?b2q1 hbase _ rfl ?nxtq1)
              case h1q1 => simp [Value.oneCell']
              case b1q1 => unfold maxLen; omega
              case b2q1 => omega
              case nxtq1 =>
                intro g3 cq w3 ho3 hg3 hgn _
                have HTN := Box.mk (HTD.out.app1 (x := N) hg3 ho3 (hgn.imp id (fun e => by rw [e]; simp)))
                have hne3 : ∀ k, (Value.slice a1 n1 c1).ownBlock = some k → V2.heap.size ≤ k := fun k hk => (ownsRow_lt HTD.out.r1 hk).1
                have HFN := Box.mk ((HFD.out.grown hg3 (fun k hk => .inr (hne3 k hk))).setCell (p := ⟨TB, 1, none⟩) (.inl rfl) (.slice (some ⟨g3, 0, none⟩) (n1 + 1) cq))
                have hbb3 := (hg3.block TB (lt_blk HTD.out.blk) (fun e => by have := hne3 TB e.symm; have := HTD.out.low; omega)).trans HTD.out.blk
                have q0 : World.cell? w3 ⟨TB, 1, none⟩ = some (.slice a1 n1 c1) := (cell_blk hbb3 1).trans rfl
                have q1 := free_blk hbb3 1
                clear ho3 hg3 hgn hne3 hbb3
                go_wp2
                go_roundw
                case rel => exact ⟨E, k, _, some ⟨g3, 0, none⟩, n1 + 1, cq, a2, n2, c2, a3, n3, c3, a4, n4, c4, by omega, by first | rfl | go_num, by omega, by omega, HTN, HSK, HFN⟩
                case measure => simp [intOf] <;> omega
            have e1' : ((c.toNat : Int) == 43) = false := beq_eq_false_iff_ne.2 (fun e => e1 (UInt8.toNat_inj.1 (by show c.toNat = 43; omega)))
            by_cases e2 : c = 47
            · subst e2
              have HSK : Box (scanF k (l.drop E) ⟨t.who, t.dn, t.ct ++ [N], t.ms, t.fs⟩ = R) := ⟨by have := HSC.out; rwa [if_neg e1, if_pos rfl] at this⟩
              clear HSC
              have HTD : Box (TRow (World.alloc wr (.cells #[.int .i64 N] 3)) V2.heap.size TB t a1 n1 c1 a2 n2 c2 a3 n3 c3 a4 n4 c4) := ⟨HTR.out.later (fun k _ hk => Below.heap_alloc _ _ _ hk)⟩
              have HFD : Box (Fr (fun k => k = TB) V2 (World.alloc wr (.cells #[.int .i64 N] 3))) := ⟨HFR.out.alloc _⟩
              have hbase : V2.heap.size ≤ (World.alloc wr (.cells #[.int .i64 N] 3)).heap.size := HFD.out.size
              go_wp2_with (at_builtin; refine wpList_append_lies _ rfl (.tmp 74) (.tmp 76) 22 rfl V2.heap.size 3 i0 (.int .i64 0) 1 8 Tryd.underlying22 hi hz0 hzz1 hzz2 rfl (by decide) (.slice a2 n2 c2) n2 (ints t.ct) rfl HTD.out.r2 ⟨(World.heap wr).size, 0, none⟩ 1 1 [.int .i64 N] rfl rfl (World.news_of_block (cs := #[.int .i64 N]) (blk_new _ _)) ?h1q2 (by omega) ?b1q2 ?b2q2 hbase _ rfl ?nxtq2)
              case h1q2 => simp [Value.oneCell']
              case b1q2 => unfold maxLen; omega
              case b2q2 => omega
              case nxtq2 =>
                intro g3 cq w3 ho3 hg3 hgn _
                have HTN := Box.mk (HTD.out.app2 (x := N) hg3 ho3 (hgn.imp id (fun e => by rw [e]; simp)))
                have hne3 : ∀ k, (Value.slice a2 n2 c2).ownBlock = some k → V2.heap.size ≤ k := fun k hk => (ownsRow_lt HTD.out.r2 hk).1
                have HFN := Box.mk ((HFD.out.grown hg3 (fun k hk => .inr (hne3 k hk))).setCell (p := ⟨TB, 2, none⟩) (.inl rfl) (.slice (some ⟨g3, 0, none⟩) (n2 + 1) cq))
                have hbb3 := (hg3.block TB (lt_blk HTD.out.blk) (fun e => by have := hne3 TB e.symm; have := HTD.out.low; omega)).trans HTD.out.blk
                have q0 : World.cell? w3 ⟨TB, 2, none⟩ = some (.slice a2 n2 c2) := (cell_blk hbb3 2).trans rfl
                have q1 := free_blk hbb3 2
                clear ho3 hg3 hgn hne3 hbb3
                go_wp2
                go_roundw
                case rel => exact ⟨E, k, _, a1, n1, c1, some ⟨g3, 0, none⟩, n2 + 1, cq, a3, n3, c3, a4, n4, c4, by omega, by first | rfl | go_num, by omega, by omega, HTN, HSK, HFN⟩
                case measure => simp [intOf] <;> omega
            have e2' : ((c.toNat : Int) == 47) = false := beq_eq_false_iff_ne.2 (fun e => e2 (UInt8.toNat_inj.1 (by show c.toNat = 47; omega)))
            by_cases e3 : c = 33
            · subst e3
              have HSK : Box (scanF k (l.drop E) ⟨t.who, t.dn, t.ct, t.ms ++ [N], t.fs⟩ = R) := ⟨by have := HSC.out; rwa [if_neg e1, if_neg e2, if_pos rfl] at this⟩
              clear HSC
              have HTD : Box (TRow (World.alloc wr (.cells #[.int .i64 N] 3)) V2.heap.size TB t a1 n1 c1 a2 n2 c2 a3 n3 c3 a4 n4 c4) := ⟨HTR.out.later (fun k _ hk => Below.heap_alloc _ _ _ hk)⟩
              have HFD : Box (Fr (fun k => k = TB) V2 (World.alloc wr (.cells #[.int .i64 N] 3))) := ⟨HFR.out.alloc _⟩
              have hbase : V2.heap.size ≤ (World.alloc wr (.cells #[.int .i64 N] 3)).heap.size := HFD.out.size
              go_wp2_with (at_builtin; refine wpList_append_lies _ rfl (.tmp 84) (.tmp 86) 22 rfl V2.heap.size 3 i0 (.int .i64 0) 1 8 Tryd.underlying22 hi hz0 hzz1 hzz2 rfl (by decide) (.slice a3 n3 c3) n3 (ints t.ms) rfl HTD.out.r3 ⟨(World.heap wr).size, 0, none⟩ 1 1 [.int .i64 N] rfl rfl (World.news_of_block (cs := #[.int .i64 N]) (blk_new _ _)) ?h1q3 (by omega) ?b1q3 ?b2q3 hbase _ rfl ?nxtq3)
              case h1q3 => simp [Value.oneCell']
              case b1q3 => unfold maxLen; omega
              case b2q3 => omega
              case nxtq3 =>
                intro g3 cq w3 ho3 hg3 hgn _
                have HTN := Box.mk (HTD.out.app3 (x := N) hg3 ho3 (hgn.imp id (fun e => by rw [e]; simp)))
                have hne3 : ∀ k, (Value.slice a3 n3 c3).ownBlock = some k → V2.heap.size ≤ k := fun k hk => (ownsRow_lt HTD.out.r3 hk).1
                have HFN := Box.mk ((HFD.out.grown hg3 (fun k hk => .inr (hne3 k hk))).setCell (p := ⟨TB, 3, none⟩) (.inl rfl) (.slice (some ⟨g3, 0, none⟩) (n3 + 1) cq))
                have hbb3 := (hg3.block TB (lt_blk HTD.out.blk) (fun e => by have := hne3 TB e.symm; have := HTD.out.low; omega)).trans HTD.out.blk
                have q0 : World.cell? w3 ⟨TB, 3, none⟩ = some (.slice a3 n3 c3) := (cell_blk hbb3 3).trans rfl
                have q1 := free_blk hbb3 3
                clear ho3 hg3 hgn hne3 hbb3
                go_wp2
                go_roundw
                case rel => exact ⟨E, k, _, a1, n1, c1, a2, n2, c2, some ⟨g3, 0, none⟩, n3 + 1, cq, a4, n4, c4, by omega, by first | rfl | go_num, by omega, by omega, HTN, HSK, HFN⟩
                case measure => simp [intOf] <;> omega
            have e3' : ((c.toNat : Int) == 33) = false := beq_eq_false_iff_ne.2 (fun e => e3 (UInt8.toNat_inj.1 (by show c.toNat = 33; omega)))
            by_cases e4 : c = 61
            · subst e4
              have hsc := HSC.out
              rw [if_neg e1, if_neg e2, if_neg e3, if_pos rfl] at hsc
              clear HSC
              by_cases hE : l.length ≤ E
              · rw [fate_none hE] at hsc
                have HNO : Box (∀ t, mayT t = true → textU t ≠ l) := ⟨no_law (HRR.out.symm.trans hsc.symm)⟩
                have hEE : (s.size : Int) ≤ E := by have := HSZ.out; omega
                clear hsc
                have HXR := Box.mk ((HFR.out.blk HX2.out (by omega)))
                have HBR : Box (Below R0 w wr) := ⟨HB2.out.trans (HFR.out.below (by omega) (fun k _ e => by omega))⟩
                have r0 : World.cell? wr ⟨R0, 0, none⟩ = some (.int .i64 0) := (cell_blk HXR.out 0).trans rfl
                have r1 : World.cell? wr ⟨R0, 1, none⟩ = some (.slice none 0 0) := (cell_blk HXR.out 1).trans rfl
                have r2 : World.cell? wr ⟨R0, 2, none⟩ = some (.slice none 0 0) := (cell_blk HXR.out 2).trans rfl
                have r3 : World.cell? wr ⟨R0, 3, none⟩ = some (.slice none 0 0) := (cell_blk HXR.out 3).trans rfl
                have r4 : World.cell? wr ⟨R0, 4, none⟩ = some (.slice none 0 0) := (cell_blk HXR.out 4).trans rfl
                have f0 := free_blk HXR.out 0
                have f1 := free_blk HXR.out 1
                have f2 := free_blk HXR.out 2
                have f3 := free_blk HXR.out 3
                have f4 := free_blk HXR.out 4
                go_wp2
                obtain ⟨qb, hfin, hbw⟩ := res5 HXR.out HBR.out (a := .int .i64 0) (b := .slice none 0 0) (c := .slice none 0 0) (d := .slice none 0 0) (e := .slice none 0 0)
                have q0 := cell_blk qb 0
                have q1 := cell_blk qb 1
                have q2 := cell_blk qb 2
                have q3 := cell_blk qb 3
                have q4 := cell_blk qb 4
                simp only [List.getElem?_toArray, List.getElem?_cons_zero, List.getElem?_cons_succ] at q0 q1 q2 q3 q4
                have HBW := Box.mk hbw
                have HFI := Box.mk hfin
                clear hbw hfin qb r0 r1 r2 r3 r4 f0 f1 f2 f3 f4
                refine bodyPost_ret (v := .tuple #[.agg #[.int .i64 0, .slice none 0 0, .slice none 0 0, .slice none 0 0, .slice none 0 0], .int .i64 9]) (by simp [results, Tryd.results14, go_sem, q0, q1, q2, q3, q4]) rfl ⟨HBW.out, .inr ⟨HNO.out, rfl⟩⟩
              · have hEl : E < l.length := by omega
                have hEs : E < s.size := by rw [HSZ.out]; exact hEl
                have hEE : (E : Int) < s.size := by omega
                have hE0 : (0 : Int) ≤ E := by omega
                have hE1s : (E : Int) + 1 ≤ s.size := by omega
                rw [fate_step hEl] at hsc
                have hsi : l[E] = s[E]'hEs := by
                  have h1 := bts_get (s := s) hEs
                  have h2 := HSL.out
                  subst h2
                  exact h1
                rw [hsi] at hsc
                have hnum := rnum25_at s (by omega) l HSL.out (E + 1) ((E : Int) + 1) (by simp) (by omega)
                obtain ⟨hFd, hFa, hFb, hFc⟩ := numE_drop (l := l) (a := E + 1) (by omega)
                rw [hFd] at hsc
                generalize (numberF (l.drop (E + 1))).1 = N2 at hnum hsc hFc
                generalize numE l (E + 1) = E2 at hnum hsc hFa hFb hFc
                have HNV := Box.mk hnum
                have HSC := Box.mk hsc
                clear hsi hnum hsc hFd
                go_upto_region 28 with (go_at_call 31; (with_reducible refine (HNV.out _).mono ?_); rintro e w4 ⟨rfl, rfl⟩)
                have hcd : ∃ KD : Int, Box (KD = if s[E]'hEs = 100 then 1 else 2) ∧ (((((s[E]'hEs).toNat : Int) == 100) = true ∧ KD = 1) ∨ ((((s[E]'hEs).toNat : Int) == 100) = false ∧ KD = 2)) := by
                  by_cases e5 : s[E]'hEs = 100
                  · exact ⟨1, ⟨by rw [if_pos e5]⟩, .inl ⟨by rw [e5]; rfl, rfl⟩⟩
                  · exact ⟨2, ⟨by rw [if_neg e5]⟩, .inr ⟨beq_eq_false_iff_ne.2 (fun e => e5 (UInt8.toNat_inj.1 (by show (s[E]'hEs).toNat = 100; omega))), rfl⟩⟩
                obtain ⟨KD, HKD, hcd⟩ := hcd
                have HSC2 : Box ((if N2 < 0 then none else scanF k (l.drop E2) ⟨t.who, t.dn, t.ct, t.ms, t.fs ++ [(N, KD, N2)]⟩) = R) := ⟨by rw [HKD.out]; exact HSC.out⟩
                clear HSC HKD
                have hwrs := HFR.out.size
                rcases hcd with ⟨q5, rfl⟩ | ⟨q5, rfl⟩
                · go_upto_region 30 with fail
                  have HTF : Box (TRow (World.alloc wr (.cells #[.int .i64 N, .int .i64 1, .int .i64 N2] 36)) V2.heap.size TB t a1 n1 c1 a2 n2 c2 a3 n3 c3 a4 n4 c4) := ⟨HTR.out.later (fun k _ hk => Below.heap_alloc _ _ _ hk)⟩
                  have HFF : Box (Fr (fun k => k = TB) V2 (World.alloc wr (.cells #[.int .i64 N, .int .i64 1, .int .i64 N2] 36))) := ⟨HFR.out.alloc _⟩
                  have HXF : Box ((World.alloc wr (.cells #[.int .i64 N, .int .i64 1, .int .i64 N2] 36)).heap[wr.heap.size]? = some (.cells #[.int .i64 N, .int .i64 1, .int .i64 N2] 36 (0, 0))) := ⟨blk_new _ _⟩
                  generalize (World.alloc wr (.cells #[.int .i64 N, .int .i64 1, .int .i64 N2] 36)) = WF at HTF HFF HXF ⊢
                  generalize wr.heap.size = FB at HXF ⊢
                  have y0 : World.cell? WF ⟨FB, 0, none⟩ = some (.int .i64 N) := (cell_blk HXF.out 0).trans rfl
                  have y1 : World.cell? WF ⟨FB, 1, none⟩ = some (.int .i64 1) := (cell_blk HXF.out 1).trans rfl
                  have y2 : World.cell? WF ⟨FB, 2, none⟩ = some (.int .i64 N2) := (cell_blk HXF.out 2).trans rfl
                  have y4 : World.cell? WF ⟨TB, 4, none⟩ = some (.slice a4 n4 c4) := (cell_blk HTF.out.blk 4).trans rfl
                  have HTD : Box (TRow (World.alloc WF (.cells #[.int .i64 N, .int .i64 1, .int .i64 N2] 36)) V2.heap.size TB t a1 n1 c1 a2 n2 c2 a3 n3 c3 a4 n4 c4) := ⟨HTF.out.later (fun k _ hk => Below.heap_alloc _ _ _ hk)⟩
                  have HFD : Box (Fr (fun k => k = TB) V2 (World.alloc WF (.cells #[.int .i64 N, .int .i64 1, .int .i64 N2] 36))) := ⟨HFF.out.alloc _⟩
                  have hbase : V2.heap.size ≤ (World.alloc WF (.cells #[.int .i64 N, .int .i64 1, .int .i64 N2] 36)).heap.size := HFD.out.size
                  go_wp2_with (at_builtin; refine wpList_append_lies _ rfl (.tmp 113) (.tmp 115) 25 rfl V2.heap.size 36 j0 (.agg #[.int .i64 0, .int .i64 0, .int .i64 0]) 3 24 Tryd.underlying25 hj hy0 hyy1 hyy2 rfl (by decide) (.slice a4 n4 c4) n4 (fc3 t.fs) rfl HTD.out.r4 ⟨(World.heap WF).size, 0, none⟩ 1 1 [.int .i64 N, .int .i64 1, .int .i64 N2] rfl rfl (World.news_of_block (cs := #[.int .i64 N, .int .i64 1, .int .i64 N2]) (blk_new _ _)) ?h1q4x1 (by omega) ?b1q4x1 ?b2q4x1 hbase _ rfl ?nxtq4x1)
                  case h1q4x1 => simp [Value.oneCell']
                  case b1q4x1 => unfold maxLen; omega
                  case b2q4x1 => omega
                  case nxtq4x1 =>
                    intro g3 cq w3 ho3 hg3 hgn _
                    have HTN := Box.mk (HTD.out.app4 (x := (N, 1, N2)) hg3 ho3 (hgn.imp id (fun e => by rw [e]; simp)))
                    have hne3 : ∀ k, (Value.slice a4 n4 c4).ownBlock = some k → V2.heap.size ≤ k := fun k hk => (ownsRow_lt HTD.out.r4 hk).1
                    have HFN := Box.mk ((HFD.out.grown hg3 (fun k hk => .inr (hne3 k hk))).setCell (p := ⟨TB, 4, none⟩) (.inl rfl) (.slice (some ⟨g3, 0, none⟩) (n4 + 1) cq))
                    have hbb3 := (hg3.block TB (lt_blk HTD.out.blk) (fun e => by have := hne3 TB e.symm; have := HTD.out.low; omega)).trans HTD.out.blk
                    have q0 : World.cell? w3 ⟨TB, 4, none⟩ = some (.slice a4 n4 c4) := (cell_blk hbb3 4).trans rfl
                    have q1 := free_blk hbb3 4
                    clear ho3 hg3 hgn hne3 hbb3
                    go_upto_region 31 with fail
                    generalize World.setCell w3 ⟨TB, 4, none⟩ (.slice (some ⟨g3, 0, none⟩) (n4 + 1) cq) = V9 at HTN HFN ⊢
                    by_cases hn2 : N2 < 0
                    · have HNO : Box (∀ t, mayT t = true → textU t ≠ l) := ⟨no_law (HRR.out.symm.trans (by have := HSC2.out; rw [if_pos hn2] at this; exact this.symm))⟩
                      clear HSC2
                      have HXR := Box.mk ((HFN.out.blk HX2.out (by omega)))
                      have HBR : Box (Below R0 w V9) := ⟨HB2.out.trans (HFN.out.below (by omega) (fun k _ e => by omega))⟩
                      have r0 : World.cell? V9 ⟨R0, 0, none⟩ = some (.int .i64 0) := (cell_blk HXR.out 0).trans rfl
                      have r1 : World.cell? V9 ⟨R0, 1, none⟩ = some (.slice none 0 0) := (cell_blk HXR.out 1).trans rfl
                      have r2 : World.cell? V9 ⟨R0, 2, none⟩ = some (.slice none 0 0) := (cell_blk HXR.out 2).trans rfl
                      have r3 : World.cell? V9 ⟨R0, 3, none⟩ = some (.slice none 0 0) := (cell_blk HXR.out 3).trans rfl
                      have r4 : World.cell? V9 ⟨R0, 4, none⟩ = some (.slice none 0 0) := (cell_blk HXR.out 4).trans rfl
                      have f0 := free_blk HXR.out 0
                      have f1 := free_blk HXR.out 1
                      have f2 := free_blk HXR.out 2
                      have f3 := free_blk HXR.out 3
                      have f4 := free_blk HXR.out 4
                      go_wp2
                      obtain ⟨qb, hfin, hbw⟩ := res5 HXR.out HBR.out (a := .int .i64 0) (b := .slice none 0 0) (c := .slice none 0 0) (d := .slice none 0 0) (e := .slice none 0 0)
                      have q0 := cell_blk qb 0
                      have q1 := cell_blk qb 1
                      have q2 := cell_blk qb 2
                      have q3 := cell_blk qb 3
                      have q4 := cell_blk qb 4
                      simp only [List.getElem?_toArray, List.getElem?_cons_zero, List.getElem?_cons_succ] at q0 q1 q2 q3 q4
                      have HBW := Box.mk hbw
                      have HFI := Box.mk hfin
                      clear hbw hfin qb r0 r1 r2 r3 r4 f0 f1 f2 f3 f4
                      refine bodyPost_ret (v := .tuple #[.agg #[.int .i64 0, .slice none 0 0, .slice none 0 0, .slice none 0 0, .slice none 0 0], .int .i64 9]) (by simp [results, Tryd.results14, go_sem, q0, q1, q2, q3, q4]) rfl ⟨HBW.out, .inr ⟨HNO.out, rfl⟩⟩
                    · have HSK : Box (scanF k (l.drop E2) ⟨t.who, t.dn, t.ct, t.ms, t.fs ++ [(N, 1, N2)]⟩ = R) := ⟨by have := HSC2.out; rwa [if_neg hn2] at this⟩
                      have hFd := hFc (by omega)
                      have hn3 : ¬ N2 < 0 := hn2
                      clear HSC2
                      go_wp2
                      go_roundw
                      case rel => exact ⟨E2, k, _, a1, n1, c1, a2, n2, c2, a3, n3, c3, some ⟨g3, 0, none⟩, n4 + 1, cq, by omega, by first | rfl | go_num, by omega, by omega, HTN, HSK, HFN⟩
                      case measure => simp [intOf] <;> omega
                · go_upto_region 30 with fail
                  have HTF : Box (TRow (World.alloc wr (.cells #[.int .i64 N, .int .i64 2, .int .i64 N2] 36)) V2.heap.size TB t a1 n1 c1 a2 n2 c2 a3 n3 c3 a4 n4 c4) := ⟨HTR.out.later (fun k _ hk => Below.heap_alloc _ _ _ hk)⟩
                  have HFF : Box (Fr (fun k => k = TB) V2 (World.alloc wr (.cells #[.int .i64 N, .int .i64 2, .int .i64 N2] 36))) := ⟨HFR.out.alloc _⟩
                  have HXF : Box ((World.alloc wr (.cells #[.int .i64 N, .int .i64 2, .int .i64 N2] 36)).heap[wr.heap.size]? = some (.cells #[.int .i64 N, .int .i64 2, .int .i64 N2] 36 (0, 0))) := ⟨blk_new _ _⟩
                  generalize (World.alloc wr (.cells #[.int .i64 N, .int .i64 2, .int .i64 N2] 36)) = WF at HTF HFF HXF ⊢
                  generalize wr.heap.size = FB at HXF ⊢
                  have y0 : World.cell? WF ⟨FB, 0, none⟩ = some (.int .i64 N) := (cell_blk HXF.out 0).trans rfl
                  have y1 : World.cell? WF ⟨FB, 1, none⟩ = some (.int .i64 2) := (cell_blk HXF.out 1).trans rfl
                  have y2 : World.cell? WF ⟨FB, 2, none⟩ = some (.int .i64 N2) := (cell_blk HXF.out 2).trans rfl
                  have y4 : World.cell? WF ⟨TB, 4, none⟩ = some (.slice a4 n4 c4) := (cell_blk HTF.out.blk 4).trans rfl
                  have HTD : Box (TRow (World.alloc WF (.cells #[.int .i64 N, .int .i64 2, .int .i64 N2] 36)) V2.heap.size TB t a1 n1 c1 a2 n2 c2 a3 n3 c3 a4 n4 c4) := ⟨HTF.out.later (fun k _ hk => Below.heap_alloc _ _ _ hk)⟩
                  have HFD : Box (Fr (fun k => k = TB) V2 (World.alloc WF (.cells #[.int .i64 N, .int .i64 2, .int .i64 N2] 36))) := ⟨HFF.out.alloc _⟩
                  have hbase : V2.heap.size ≤ (World.alloc WF (.cells #[.int .i64 N, .int .i64 2, .int .i64 N2] 36)).heap.size := HFD.out.size
                  go_wp2_with (at_builtin; refine wpList_append_lies _ rfl (.tmp 113) (.tmp 115) 25 rfl V2.heap.size 36 j0 (.agg #[.int .i64 0, .int .i64 0, .int .i64 0]) 3 24 Tryd.underlying25 hj hy0 hyy1 hyy2 rfl (by decide) (.slice a4 n4 c4) n4 (fc3 t.fs) rfl HTD.out.r4 ⟨(World.heap WF).size, 0, none⟩ 1 1 [.int .i64 N, .int .i64 2, .int .i64 N2] rfl rfl (World.news_of_block (cs := #[.int .i64 N, .int .i64 2, .int .i64 N2]) (blk_new _ _)) ?h1q4x2 (by omega) ?b1q4x2 ?b2q4x2 hbase _ rfl ?nxtq4x2)
                  case h1q4x2 => simp [Value.oneCell']
                  case b1q4x2 => unfold maxLen; omega
                  case b2q4x2 => omega
                  case nxtq4x2 =>
                    intro g3 cq w3 ho3 hg3 hgn _
                    have HTN := Box.mk (HTD.out.app4 (x := (N, 2, N2)) hg3 ho3 (hgn.imp id (fun e => by rw [e]; simp)))
                    have hne3 : ∀ k, (Value.slice a4 n4 c4).ownBlock = some k → V2.heap.size ≤ k := fun k hk => (ownsRow_lt HTD.out.r4 hk).1
                    have HFN := Box.mk ((HFD.out.grown hg3 (fun k hk => .inr (hne3 k hk))).setCell (p := ⟨TB, 4, none⟩) (.inl rfl) (.slice (some ⟨g3, 0, none⟩) (n4 + 1) cq))
                    have hbb3 := (hg3.block TB (lt_blk HTD.out.blk) (fun e => by have := hne3 TB e.symm; have := HTD.out.low; omega)).trans HTD.out.blk
                    have q0 : World.cell? w3 ⟨TB, 4, none⟩ = some (.slice a4 n4 c4) := (cell_blk hbb3 4).trans rfl
                    have q1 := free_blk hbb3 4
                    clear ho3 hg3 hgn hne3 hbb3
                    go_upto_region 31 with fail
                    generalize World.setCell w3 ⟨TB, 4, none⟩ (.slice (some ⟨g3, 0, none⟩) (n4 + 1) cq) = V9 at HTN HFN ⊢
                    by_cases hn2 : N2 < 0
                    · have HNO : Box (∀ t, mayT t = true → textU t ≠ l) := ⟨no_law (HRR.out.symm.trans (by have := HSC2.out; rw [if_pos hn2] at this; exact this.symm))⟩
                      clear HSC2
                      have HXR := Box.mk ((HFN.out.blk HX2.out (by omega)))
                      have HBR : Box (Below R0 w V9) := ⟨HB2.out.trans (HFN.out.below (by omega) (fun k _ e => by omega))⟩
                      have r0 : World.cell? V9 ⟨R0, 0, none⟩ = some (.int .i64 0) := (cell_blk HXR.out 0).trans rfl
                      have r1 : World.cell? V9 ⟨R0, 1, none⟩ = some (.slice none 0 0) := (cell_blk HXR.out 1).trans rfl
                      have r2 : World.cell? V9 ⟨R0, 2, none⟩ = some (.slice none 0 0) := (cell_blk HXR.out 2).trans rfl
                      have r3 : World.cell? V9 ⟨R0, 3, none⟩ = some (.slice none 0 0) := (cell_blk HXR.out 3).trans rfl
                      have r4 : World.cell? V9 ⟨R0, 4, none⟩ = some (.slice none 0 0) := (cell_blk HXR.out 4).trans rfl
                      have f0 := free_blk HXR.out 0
                      have f1 := free_blk HXR.out 1
                      have f2 := free_blk HXR.out 2
                      have f3 := free_blk HXR.out 3
                      have f4 := free_blk HXR.out 4
                      go_wp2
                      obtain ⟨qb, hfin, hbw⟩ := res5 HXR.out HBR.out (a := .int .i64 0) (b := .slice none 0 0) (c := .slice none 0 0) (d := .slice none 0 0) (e := .slice none 0 0)
                      have q0 := cell_blk qb 0
                      have q1 := cell_blk qb 1
                      have q2 := cell_blk qb 2
                      have q3 := cell_blk qb 3
                      have q4 := cell_blk qb 4
                      simp only [List.getElem?_toArray, List.getElem?_cons_zero, List.getElem?_cons_succ] at q0 q1 q2 q3 q4
                      have HBW := Box.mk hbw
                      have HFI := Box.mk hfin
                      clear hbw hfin qb r0 r1 r2 r3 r4 f0 f1 f2 f3 f4
                      refine bodyPost_ret (v := .tuple #[.agg #[.int .i64 0, .slice none 0 0, .slice none 0 0, .slice none 0 0, .slice none 0 0], .int .i64 9]) (by simp [results, Tryd.results14, go_sem, q0, q1, q2, q3, q4]) rfl ⟨HBW.out, .inr ⟨HNO.out, rfl⟩⟩
                    · have HSK : Box (scanF k (l.drop E2) ⟨t.who, t.dn, t.ct, t.ms, t.fs ++ [(N, 2, N2)]⟩ = R) := ⟨by have := HSC2.out; rwa [if_neg hn2] at this⟩
                      have hFd := hFc (by omega)
                      have hn3 : ¬ N2 < 0 := hn2
                      clear HSC2
                      go_wp2
                      go_roundw
                      case rel => exact ⟨E2, k, _, a1, n1, c1, a2, n2, c2, a3, n3, c3, some ⟨g3, 0, none⟩, n4 + 1, cq, by omega, by first | rfl | go_num, by omega, by omega, HTN, HSK, HFN⟩
                      case measure => simp [intOf] <;> omega
            have e4' : ((c.toNat : Int) == 61) = false := beq_eq_false_iff_ne.2 (fun e => e4 (UInt8.toNat_inj.1 (by show c.toNat = 61; omega)))
            have HNO : Box (∀ t, mayT t = true → textU t ≠ l) := ⟨no_law (HRR.out.symm.trans (by have := HSC.out; rw [if_neg e1, if_neg e2, if_neg e3, if_neg e4] at this; exact this.symm))⟩
            clear HSC e1 e2 e3 e4
            have HXR := Box.mk ((HFR.out.blk HX2.out (by omega)))
            have HBR : Box (Below R0 w wr) := ⟨HB2.out.trans (HFR.out.below (by omega) (fun k _ e => by omega))⟩
            have r0 : World.cell? wr ⟨R0, 0, none⟩ = some (.int .i64 0) := (cell_blk HXR.out 0).trans rfl
            have r1 : World.cell? wr ⟨R0, 1, none⟩ = some (.slice none 0 0) := (cell_blk HXR.out 1).trans rfl
            have r2 : World.cell? wr ⟨R0, 2, none⟩ = some (.slice none 0 0) := (cell_blk HXR.out 2).trans rfl
            have r3 : World.cell? wr ⟨R0, 3, none⟩ = some (.slice none 0 0) := (cell_blk HXR.out 3).trans rfl
            have r4 : World.cell? wr ⟨R0, 4, none⟩ = some (.slice none 0 0) := (cell_blk HXR.out 4).trans rfl
            have f0 := free_blk HXR.out 0
            have f1 := free_blk HXR.out 1
            have f2 := free_blk HXR.out 2
            have f3 := free_blk HXR.out 3
            have f4 := free_blk HXR.out 4
            go_wp2
            obtain ⟨qb, hfin, hbw⟩ := res5 HXR.out HBR.out (a := .int .i64 0) (b := .slice none 0 0) (c := .slice none 0 0) (d := .slice none 0 0) (e := .slice none 0 0)
            have q0 := cell_blk qb 0
            have q1 := cell_blk qb 1
            have q2 := cell_blk qb 2
            have q3 := cell_blk qb 3
            have q4 := cell_blk qb 4
            simp only [List.getElem?_toArray, List.getElem?_cons_zero, List.getElem?_cons_succ] at q0 q1 q2 q3 q4
            have HBW := Box.mk hbw
            have HFI := Box.mk hfin
            clear hbw hfin qb r0 r1 r2 r3 r4 f0 f1 f2 f3 f4
            refine bodyPost_ret (v := .tuple #[.agg #[.int .i64 0, .slice none 0 0, .slice none 0 0, .slice none 0 0, .slice none 0 0], .int .i64 9]) (by simp [results, Tryd.results14, go_sem, q0, q1, q2, q3, q4]) rfl ⟨HBW.out, .inr ⟨HNO.out, rfl⟩⟩
        · obtain rfl : i = l.length := by omega
          have hR : R = some t := by
            obtain ⟨k, rfl⟩ : ∃ k', k = k' + 1 := ⟨k - 1, by omega⟩
            have := HSC.out
            rw [List.drop_length, scanF] at this
            exact this.symm
          have hii : ¬ (l.length : Int) < s.size := by have := HSZ.out; omega
          have HLW := Box.mk (some_law (HRR.out.symm.trans hR))
          have HTX := Box.mk (rttext_any t a1 n1 c1 a2 n2 c2 a3 n3 c3 a4 n4 c4 wr (HTR.out.tk (by omega) (by omega) (by omega) (by omega)) (by omega) (by omega) (by omega) (by omega))
          have hss : s.toList = l := by rw [Lib.toList_data]; exact HSL.out.symm
          have HBR : Box (Below R0 w wr) := ⟨HB2.out.trans (HFR.out.below (by omega) (fun k _ e => by omega))⟩
          have HXR := Box.mk (HFR.out.blk HX2.out (by omega))
          have hblk := HTR.out.blk
          have z0 : World.cell? wr ⟨TB, 0, none⟩ = some (.int .i64 t.who) := (cell_blk hblk 0).trans rfl
          have z1 : World.cell? wr ⟨TB, 1, none⟩ = some (.slice a1 n1 c1) := (cell_blk hblk 1).trans rfl
          have z2 : World.cell? wr ⟨TB, 2, none⟩ = some (.slice a2 n2 c2) := (cell_blk hblk 2).trans rfl
          have z3 : World.cell? wr ⟨TB, 3, none⟩ = some (.slice a3 n3 c3) := (cell_blk hblk 3).trans rfl
          have z4 : World.cell? wr ⟨TB, 4, none⟩ = some (.slice a4 n4 c4) := (cell_blk hblk 4).trans rfl
          have zf := free_blk hblk 0
          clear hblk
          have hRw : R0 < wr.heap.size := lt_blk HXR.out
          clear HSC hR
          by_cases hte : textT t = l
          · have hq : (textT t != s.toList) = false := by rw [hss]; simp [hte]
            have hq2 : (textT t == s.toList) = true := by rw [hss]; simp [hte]
            have hmay : mayT t = true := by
              cases hm : mayT t with
              | true => rfl
              | false =>
                unfold textT at hte
                rw [hm] at hte
                have : l.length = 0 := by rw [← hte]; rfl
                omega
            have HMT : Box (mayT t = true ∧ textU t = l) := ⟨hmay, by unfold textT at hte; rw [if_pos hmay] at hte; exact hte⟩
            clear hte hmay HLW hss
            go_upto_region 37 with (go_at_call 9; (with_reducible refine HTX.out.mono ?_); rintro e w10 ⟨rfl, hb⟩; have HB10 := Box.mk hb; clear hb)
            have HTZ := Box.mk (HTR.out.later (fun k _ hk => HB10.out.block k hk))
            have HXZ := Box.mk ((HB10.out.block R0 hRw).trans HXR.out)
            have HBZ : Box (Below R0 w w10) := ⟨HBR.out.trans (HB10.out.mono (by omega))⟩
            have hblk := HTZ.out.blk
            have v0 : World.cell? w10 ⟨TB, 0, none⟩ = some (.int .i64 t.who) := (cell_blk hblk 0).trans rfl
            have v1 : World.cell? w10 ⟨TB, 1, none⟩ = some (.slice a1 n1 c1) := (cell_blk hblk 1).trans rfl
            have v2 : World.cell? w10 ⟨TB, 2, none⟩ = some (.slice a2 n2 c2) := (cell_blk hblk 2).trans rfl
            have v3 : World.cell? w10 ⟨TB, 3, none⟩ = some (.slice a3 n3 c3) := (cell_blk hblk 3).trans rfl
            have v4 : World.cell? w10 ⟨TB, 4, none⟩ = some (.slice a4 n4 c4) := (cell_blk hblk 4).trans rfl
            clear hblk
            have r0 : World.cell? w10 ⟨R0, 0, none⟩ = some (.int .i64 0) := (cell_blk HXZ.out 0).trans rfl
            have r1 : World.cell? w10 ⟨R0, 1, none⟩ = some (.slice none 0 0) := (cell_blk HXZ.out 1).trans rfl
            have r2 : World.cell? w10 ⟨R0, 2, none⟩ = some (.slice none 0 0) := (cell_blk HXZ.out 2).trans rfl
            have r3 : World.cell? w10 ⟨R0, 3, none⟩ = some (.slice none 0 0) := (cell_blk HXZ.out 3).trans rfl
            have r4 : World.cell? w10 ⟨R0, 4, none⟩ = some (.slice none 0 0) := (cell_blk HXZ.out 4).trans rfl
            have f0 := free_blk HXZ.out 0
            have f1 := free_blk HXZ.out 1
            have f2 := free_blk HXZ.out 2
            have f3 := free_blk HXZ.out 3
            have f4 := free_blk HXZ.out 4
            go_wp2
            obtain ⟨qb, hfin, hbw⟩ := res5 HXZ.out HBZ.out (a := .int .i64 t.who) (b := .slice a1 n1 c1) (c := .slice a2 n2 c2) (d := .slice a3 n3 c3) (e := .slice a4 n4 c4)
            have q0 := cell_blk qb 0
            have q1 := cell_blk qb 1
            have q2 := cell_blk qb 2
            have q3 := cell_blk qb 3
            have q4 := cell_blk qb 4
            simp only [List.getElem?_toArray, List.getElem?_cons_zero, List.getElem?_cons_succ] at q0 q1 q2 q3 q4
            have HBW := Box.mk hbw
            have HFI := Box.mk hfin
            clear hbw hfin qb r0 r1 r2 r3 r4 f0 f1 f2 f3 f4
            refine bodyPost_ret (v := .tuple #[.agg #[.int .i64 t.who, .slice a1 n1 c1, .slice a2 n2 c2, .slice a3 n3 c3, .slice a4 n4 c4], .int .i64 0]) (by simp [results, Tryd.results14, go_sem, q0, q1, q2, q3, q4]) rfl ⟨HBW.out, .inl ⟨t, a1, n1, c1, a2, n2, c2, a3, n3, c3, a4, n4, c4, HMT.out.1, HMT.out.2, rfl, (HTZ.out.later (fun k hk1 hk => HFI.out.block k hk (fun e => by omega))).tk (by omega) (by omega) (by omega) (by omega)⟩⟩
          · have hq : (textT t != s.toList) = true := by rw [hss]; simp [hte]
            have hq2 : (textT t == s.toList) = false := by rw [hss]; simp [hte]
            have HNO : Box (∀ t, mayT t = true → textU t ≠ l) := ⟨fun t' h1 h2 => by
              have := HLW.out t' h1 h2
              subst this
              exact hte (by unfold textT; rw [if_pos h1]; exact h2)⟩
            clear hte HLW hss
            go_upto_region 36 with (go_at_call 9; (with_reducible refine HTX.out.mono ?_); rintro e w10 ⟨rfl, hb⟩; have HB10 := Box.mk hb; clear hb)
            have HXZ := Box.mk ((HB10.out.block R0 hRw).trans HXR.out)
            have HBZ : Box (Below R0 w w10) := ⟨HBR.out.trans (HB10.out.mono (by omega))⟩
            have r0 : World.cell? w10 ⟨R0, 0, none⟩ = some (.int .i64 0) := (cell_blk HXZ.out 0).trans rfl
            have r1 : World.cell? w10 ⟨R0, 1, none⟩ = some (.slice none 0 0) := (cell_blk HXZ.out 1).trans rfl
            have r2 : World.cell? w10 ⟨R0, 2, none⟩ = some (.slice none 0 0) := (cell_blk HXZ.out 2).trans rfl
            have r3 : World.cell? w10 ⟨R0, 3, none⟩ = some (.slice none 0 0) := (cell_blk HXZ.out 3).trans rfl
            have r4 : World.cell? w10 ⟨R0, 4, none⟩ = some (.slice none 0 0) := (cell_blk HXZ.out 4).trans rfl
            have f0 := free_blk HXZ.out 0
            have f1 := free_blk HXZ.out 1
            have f2 := free_blk HXZ.out 2
            have f3 := free_blk HXZ.out 3
            have f4 := free_blk HXZ.out 4
            go_wp2
            obtain ⟨qb, hfin, hbw⟩ := res5 HXZ.out HBZ.out (a := .int .i64 0) (b := .slice none 0 0) (c := .slice none 0 0) (d := .slice none 0 0) (e := .slice none 0 0)
            have q0 := cell_blk qb 0
            have q1 := cell_blk qb 1
            have q2 := cell_blk qb 2
            have q3 := cell_blk qb 3
            have q4 := cell_blk qb 4
            simp only [List.getElem?_toArray, List.getElem?_cons_zero, List.getElem?_cons_succ] at q0 q1 q2 q3 q4
            have HBW := Box.mk hbw
            have HFI := Box.mk hfin
            clear hbw hfin qb r0 r1 r2 r3 r4 f0 f1 f2 f3 f4
            refine bodyPost_ret (v := .tuple #[.agg #[.int .i64 0, .slice none 0 0, .slice none 0 0, .slice none 0 0, .slice none 0 0], .int .i64 9]) (by simp [results, Tryd.results14, go_sem, q0, q1, q2, q3, q4]) rfl ⟨HBW.out, .inr ⟨HNO.out, rfl⟩⟩
    · have hw1 : wrap64 (100 + N1) = 100 + N1 := by unfold wrap64; omega
      go_upto_block 0 with (go_at_call 31; (with_reducible refine (HNU.out V1).mono ?_); rintro e w3 ⟨rfl, rfl⟩)
      try rw [hw1]
      have HT2 : Box ((World.setCell (World.setCell V1 ⟨TB, 0, none⟩ (.int .i64 N1)) ⟨TB, 0, none⟩ (.int .i64 (100 + N1))).heap[TB]? = some (.cells #[.int .i64 (100 + N1), .slice none 0 0, .slice none 0 0, .slice none 0 0, .slice none 0 0] 27 (0, 0))) := ⟨by rw [blk_set (blk_set HT1.out _)]; simp⟩
      have HX2 : Box ((World.setCell (World.setCell V1 ⟨TB, 0, none⟩ (.int .i64 N1)) ⟨TB, 0, none⟩ (.int .i64 (100 + N1))).heap[R0]? = some (.cells #[.int .i64 0, .slice none 0 0, .slice none 0 0, .slice none 0 0, .slice none 0 0] 27 (0, 0))) := ⟨(blk_set_ne _ (by omega)).trans ((blk_set_ne _ (by omega)).trans HX1.out)⟩
      have HB2 : Box (Below R0 w (World.setCell (World.setCell V1 ⟨TB, 0, none⟩ (.int .i64 N1)) ⟨TB, 0, none⟩ (.int .i64 (100 + N1)))) := ⟨HB1.out.trans (Fr.below (((Fr.refl (fun k => k = TB) V1).setCell (p := ⟨TB, 0, none⟩) (.inl rfl) _).setCell (p := ⟨TB, 0, none⟩) (.inl rfl) _) (by have := lt_blk HT1.out; omega) (fun k _ e => by omega))⟩
      generalize (World.setCell (World.setCell V1 ⟨TB, 0, none⟩ (.int .i64 N1)) ⟨TB, 0, none⟩ (.int .i64 (100 + N1))) = V2 at HT2 HX2 HB2 ⊢
      clear HX1 HT1 HB1 HS1 t0 tf
      subst hq3
      subst hq4
      have hV2 : TB < V2.heap.size := lt_blk HT2.out
      go_wp2
      go_loopw [5, 8, 9, 10, 11, 12] (fun s5 _ _ _ _ _ wr => ∃ (i k : Nat) (t : Tk) (a1 : Option Addr) (n1 c1 : Nat) (a2 : Option Addr) (n2 c2 : Nat) (a3 : Option Addr) (n3 c3 : Nat) (a4 : Option Addr) (n4 c4 : Nat), i ≤ l.length ∧ s5 = .int .i64 i ∧ n1 + n2 + n3 + n4 ≤ i ∧ l.length - i < k ∧ Box (TRow wr V2.heap.size TB t a1 n1 c1 a2 n2 c2 a3 n3 c3 a4 n4 c4) ∧ Box (scanF k (l.drop i) t = R) ∧ Box (Fr (fun k => k = TB) V2 wr)) (fun s5 _ _ _ _ _ _ => l.length - (intOf s5).toNat)
      case atStart => exact ⟨I0, l.length + 1, ⟨100 + N1, [], [], [], []⟩, none, 0, 0, none, 0, 0, none, 0, 0, none, 0, 0, hI2, rfl, by omega, by omega, ⟨⟨HT2.out, World.ownsRow_nil _ _ _ _, World.ownsRow_nil _ _ _ _, World.ownsRow_nil _ _ _ _, World.ownsRow_nil _ _ _ _, hV2, fun k h => (by cases h), fun k h => (by cases h), fun k h => (by cases h), fun k h => (by cases h), fun k h => (by cases h), fun k h => (by cases h)⟩⟩, ⟨HR0.out.symm⟩, ⟨Fr.refl _ _⟩⟩
      case round =>
        obtain ⟨i, k, t, a1, n1, c1, a2, n2, c2, a3, n3, c3, a4, n4, c4, hil, rfl, hns, hk, HTR, HSC, HFR⟩ := hrel
        clear HR0 HT2
        by_cases hlt : i < l.length
        · have hp : i < s.size := by rw [HSZ.out]; exact hlt
          have hii : (i : Int) < s.size := by omega
          obtain ⟨k, rfl⟩ : ∃ k', k = k' + 1 := ⟨k - 1, by omega⟩
          have hnum := rnum25_at s (by omega) l HSL.out (i + 1) ((i : Int) + 1) (by simp) (by omega)
          obtain ⟨_, hEa, hEb, hEc⟩ := numE_drop (l := l) (a := i + 1) (by omega)
          have hsc := HSC.out
          have hsi : l[i] = s[i]'hp := by
            have h1 := bts_get (s := s) hp
            have h2 := HSL.out
            subst h2
            exact h1
          rw [scan_step hlt hsi] at hsc
          generalize (numberF (l.drop (i + 1))).1 = N at hnum hsc hEc
          generalize numE l (i + 1) = E at hnum hsc hEa hEb hEc
          have HNU := Box.mk hnum
          clear hsi HSC hnum
          have hiv : (0 : Int) ≤ i := by omega
          have hiw : (i : Int) + 1 ≤ s.size := by omega
          by_cases hn : N < 0
          · rw [if_pos hn] at hsc
            have HNO : Box (∀ t, mayT t = true → textU t ≠ l) := ⟨no_law (HRR.out.symm.trans hsc.symm)⟩
            clear hsc hEc
            have HXR := Box.mk ((HFR.out.blk HX2.out (by omega)))
            have HBR : Box (Below R0 w wr) := ⟨HB2.out.trans (HFR.out.below (by omega) (fun k _ e => by omega))⟩
            have r0 : World.cell? wr ⟨R0, 0, none⟩ = some (.int .i64 0) := (cell_blk HXR.out 0).trans rfl
            have r1 : World.cell? wr ⟨R0, 1, none⟩ = some (.slice none 0 0) := (cell_blk HXR.out 1).trans rfl
            have r2 : World.cell? wr ⟨R0, 2, none⟩ = some (.slice none 0 0) := (cell_blk HXR.out 2).trans rfl
            have r3 : World.cell? wr ⟨R0, 3, none⟩ = some (.slice none 0 0) := (cell_blk HXR.out 3).trans rfl
            have r4 : World.cell? wr ⟨R0, 4, none⟩ = some (.slice none 0 0) := (cell_blk HXR.out 4).trans rfl
            have f0 := free_blk HXR.out 0
            have f1 := free_blk HXR.out 1
            have f2 := free_blk HXR.out 2
            have f3 := free_blk HXR.out 3
            have f4 := free_blk HXR.out 4
            go_wp2_with (go_at_call 31; (with_reducible refine (HNU.out _).mono ?_); rintro e w3 ⟨rfl, rfl⟩)
            obtain ⟨qb, hfin, hbw⟩ := res5 HXR.out HBR.out (a := .int .i64 0) (b := .slice none 0 0) (c := .slice none 0 0) (d := .slice none 0 0) (e := .slice none 0 0)
            have q0 := cell_blk qb 0
            have q1 := cell_blk qb 1
            have q2 := cell_blk qb 2
            have q3 := cell_blk qb 3
            have q4 := cell_blk qb 4
            simp only [List.getElem?_toArray, List.getElem?_cons_zero, List.getElem?_cons_succ] at q0 q1 q2 q3 q4
            have HBW := Box.mk hbw
            have HFI := Box.mk hfin
            clear hbw hfin qb r0 r1 r2 r3 r4 f0 f1 f2 f3 f4
            refine bodyPost_ret (v := .tuple #[.agg #[.int .i64 0, .slice none 0 0, .slice none 0 0, .slice none 0 0, .slice none 0 0], .int .i64 9]) (by simp [results, Tryd.results14, go_sem, q0, q1, q2, q3, q4]) rfl ⟨HBW.out, .inr ⟨HNO.out, rfl⟩⟩
          · rw [if_neg hn] at hsc
            have hEd := hEc (by omega)
            clear hEc
            have hn0 : ¬ N < 0 := hn
            have hblk := HTR.out.blk
            have z0 : World.cell? wr ⟨TB, 0, none⟩ = some (.int .i64 t.who) := (cell_blk hblk 0).trans rfl
            have z1 : World.cell? wr ⟨TB, 1, none⟩ = some (.slice a1 n1 c1) := (cell_blk hblk 1).trans rfl
            have z2 : World.cell? wr ⟨TB, 2, none⟩ = some (.slice a2 n2 c2) := (cell_blk hblk 2).trans rfl
            have z3 : World.cell? wr ⟨TB, 3, none⟩ = some (.slice a3 n3 c3) := (cell_blk hblk 3).trans rfl
            have z4 : World.cell? wr ⟨TB, 4, none⟩ = some (.slice a4 n4 c4) := (cell_blk hblk 4).trans rfl
            have zf := free_blk hblk 0
            clear hblk
            have HSC := Box.mk hsc
            clear hsc
            go_upto_region 17 with (go_at_call 31; (with_reducible refine (HNU.out _).mono ?_); rintro e w3 ⟨rfl, rfl⟩)
            generalize s[i]'hp = c at HSC ⊢
            by_cases e1 : c = 43
            · subst e1
              have HSK : Box (scanF k (l.drop E) ⟨t.who, t.dn ++ [N], t.ct, t.ms, t.fs⟩ = R) := ⟨by have := HSC.out; rwa [if_pos rfl] at this⟩
              clear HSC
              have HTD : Box (TRow (World.alloc wr (.cells #[.int .i64 N] 3)) V2.heap.size TB t a1 n1 c1 a2 n2 c2 a3 n3 c3 a4 n4 c4) := ⟨HTR.out.later (fun k _ hk => Below.heap_alloc _ _ _ hk)⟩
              have HFD : Box (Fr (fun k => k = TB) V2 (World.alloc wr (.cells #[.int .i64 N] 3))) := ⟨HFR.out.alloc _⟩
              have hbase : V2.heap.size ≤ (World.alloc wr (.cells #[.int .i64 N] 3)).heap.size := HFD.out.size
              go_wp2_with (at_builtin; refine wpList_append_lies _ rfl (.tmp 64) (.tmp 66) 22 rfl V2.heap.size 3 i0 (.int .i64 0) 1 8 Tryd.underlying22 hi hz0 hzz1 hzz2 rfl (by decide) (.slice a1 n1 c1) n1 (ints t.dn) rfl HTD.out.r1 ⟨(World.heap wr).size, 0, none⟩ 1 1 [.int .i64 N] rfl rfl (World.news_of_block (cs := #[.int .i64 N]) (blk_new _ _)) ?h1q1 (by omega) ?b1q1 ?b2q1 hbase _ rfl ?nxtq1)
              case h1q1 => simp [Value.oneCell']
              case b1q1 => unfold maxLen; omega
              case b2q1 => omega
              case nxtq1 =>
                intro g3 cq w3 ho3 hg3 hgn _
                have HTN := Box.mk (HTD.out.app1 (x := N) hg3 ho3 (hgn.imp id (fun e => by rw [e]; simp)))
                have hne3 : ∀ k, (Value.slice a1 n1 c1).ownBlock = some k → V2.heap.size ≤ k := fun k hk => (ownsRow_lt HTD.out.r1 hk).1
                have HFN := Box.mk ((HFD.out.grown hg3 (fun k hk => .inr (hne3 k hk))).setCell (p := ⟨TB, 1, none⟩) (.inl rfl) (.slice (some ⟨g3, 0, none⟩) (n1 + 1) cq))
                have hbb3 := (hg3.block TB (lt_blk HTD.out.blk) (fun e => by have := hne3 TB e.symm; have := HTD.out.low; omega)).trans HTD.out.blk
                have q0 : World.cell? w3 ⟨TB, 1, none⟩ = some (.slice a1 n1 c1) := (cell_blk hbb3 1).trans rfl
                have q1 := free_blk hbb3 1
                clear ho3 hg3 hgn hne3 hbb3
                go_wp2
                go_roundw
                case rel => exact ⟨E, k, _, some ⟨g3, 0, none⟩, n1 + 1, cq, a2, n2, c2, a3, n3, c3, a4, n4, c4, by omega, by first | rfl | go_num, by omega, by omega, HTN, HSK, HFN⟩
                case measure => simp [intOf] <;> omega
            have e1' : ((c.toNat : Int) == 43) = false := beq_eq_false_iff_ne.2 (fun e => e1 (UInt8.toNat_inj.1 (by show c.toNat = 43; omega)))
            by_cases e2 : c = 47
            · subst e2
              have HSK : Box (scanF k (l.drop E) ⟨t.who, t.dn, t.ct ++ [N], t.ms, t.fs⟩ = R) := ⟨by have := HSC.out; rwa [if_neg e1, if_pos rfl] at this⟩
              clear HSC
              have HTD : Box (TRow (World.alloc wr (.cells #[.int .i64 N] 3)) V2.heap.size TB t a1 n1 c1 a2 n2 c2 a3 n3 c3 a4 n4 c4) := ⟨HTR.out.later (fun k _ hk => Below.heap_alloc _ _ _ hk)⟩
              have HFD : Box (Fr (fun k => k = TB) V2 (World.alloc wr (.cells #[.int .i64 N] 3))) := ⟨HFR.out.alloc _⟩
              have hbase : V2.heap.size ≤ (World.alloc wr (.cells #[.int .i64 N] 3)).heap.size := HFD.out.size
              go_wp2_with (at_builtin; refine wpList_append_lies _ rfl (.tmp 74) (.tmp 76) 22 rfl V2.heap.size 3 i0 (.int .i64 0) 1 8 Tryd.underlying22 hi hz0 hzz1 hzz2 rfl (by decide) (.slice a2 n2 c2) n2 (ints t.ct) rfl HTD.out.r2 ⟨(World.heap wr).size, 0, none⟩ 1 1 [.int .i64 N] rfl rfl (World.news_of_block (cs := #[.int .i64 N]) (blk_new _ _)) ?h1q2 (by omega) ?b1q2 ?b2q2 hbase _ rfl ?nxtq2)
              case h1q2 => simp [Value.oneCell']
              case b1q2 => unfold maxLen; omega
              case b2q2 => omega
              case nxtq2 =>
                intro g3 cq w3 ho3 hg3 hgn _
                have HTN := Box.mk (HTD.out.app2 (x := N) hg3 ho3 (hgn.imp id (fun e => by rw [e]; simp)))
                have hne3 : ∀ k, (Value.slice a2 n2 c2).ownBlock = some k → V2.heap.size ≤ k := fun k hk => (ownsRow_lt HTD.out.r2 hk).1
                have HFN := Box.mk ((HFD.out.grown hg3 (fun k hk => .inr (hne3 k hk))).setCell (p := ⟨TB, 2, none⟩) (.inl rfl) (.slice (some ⟨g3, 0, none⟩) (n2 + 1) cq))
                have hbb3 := (hg3.block TB (lt_blk HTD.out.blk) (fun e => by have := hne3 TB e.symm; have := HTD.out.low; omega)).trans HTD.out.blk
                have q0 : World.cell? w3 ⟨TB, 2, none⟩ = some (.slice a2 n2 c2) := (cell_blk hbb3 2).trans rfl
                have q1 := free_blk hbb3 2
                clear ho3 hg3 hgn hne3 hbb3
                go_wp2
                go_roundw
                case rel => exact ⟨E, k, _, a1, n1, c1, some ⟨g3, 0, none⟩, n2 + 1, cq, a3, n3, c3, a4, n4, c4, by omega, by first | rfl | go_num, by omega, by omega, HTN, HSK, HFN⟩
                case measure => simp [intOf] <;> omega
            have e2' : ((c.toNat : Int) == 47) = false := beq_eq_false_iff_ne.2 (fun e => e2 (UInt8.toNat_inj.1 (by show c.toNat = 47; omega)))
            by_cases e3 : c = 33
            · subst e3
              have HSK : Box (scanF k (l.drop E) ⟨t.who, t.dn, t.ct, t.ms ++ [N], t.fs⟩ = R) := ⟨by have := HSC.out; rwa [if_neg e1, if_neg e2, if_pos rfl] at this⟩
              clear HSC
              have HTD : Box (TRow (World.alloc wr (.cells #[.int .i64 N] 3)) V2.heap.size TB t a1 n1 c1 a2 n2 c2 a3 n3 c3 a4 n4 c4) := ⟨HTR.out.later (fun k _ hk => Below.heap_alloc _ _ _ hk)⟩
              have HFD : Box (Fr (fun k => k = TB) V2 (World.alloc wr (.cells #[.int .i64 N] 3))) := ⟨HFR.out.alloc _⟩
              have hbase : V2.heap.size ≤ (World.alloc wr (.cells #[.int .i64 N] 3)).heap.size := HFD.out.size
              go_wp2_with (at_builtin; refine wpList_append_lies _ rfl (.tmp 84) (.tmp 86) 22 rfl V2.heap.size 3 i0 (.int .i64 0) 1 8 Tryd.underlying22 hi hz0 hzz1 hzz2 rfl (by decide) (.slice a3 n3 c3) n3 (ints t.ms) rfl HTD.out.r3 ⟨(World.heap wr).size, 0, none⟩ 1 1 [.int .i64 N] rfl rfl (World.news_of_block (cs := #[.int .i64 N]) (blk_new _ _)) ?h1q3 (by omega) ?b1q3 ?b2q3 hbase _ rfl ?nxtq3)
              case h1q3 => simp [Value.oneCell']
              case b1q3 => unfold maxLen; omega
              case b2q3 => omega
              case nxtq3 =>
                intro g3 cq w3 ho3 hg3 hgn _
                have HTN := Box.mk (HTD.out.app3 (x := N) hg3 ho3 (hgn.imp id (fun e => by rw [e]; simp)))
                have hne3 : ∀ k, (Value.slice a3 n3 c3).ownBlock = some k → V2.heap.size ≤ k := fun k hk => (ownsRow_lt HTD.out.r3 hk).1
                have HFN := Box.mk ((HFD.out.grown hg3 (fun k hk => .inr (hne3 k hk))).setCell (p := ⟨TB, 3, none⟩) (.inl rfl) (.slice (some ⟨g3, 0, none⟩) (n3 + 1) cq))
                have hbb3 := (hg3.block TB (lt_blk HTD.out.blk) (fun e => by have := hne3 TB e.symm; have := HTD.out.low; omega)).trans HTD.out.blk
                have q0 : World.cell? w3 ⟨TB, 3, none⟩ = some (.slice a3 n3 c3) := (cell_blk hbb3 3).trans rfl
                have q1 := free_blk hbb3 3
                clear ho3 hg3 hgn hne3 hbb3
                go_wp2
                go_roundw
                case rel => exact ⟨E, k, _, a1, n1, c1, a2, n2, c2, some ⟨g3, 0, none⟩, n3 + 1, cq, a4, n4, c4, by omega, by first | rfl | go_num, by omega, by omega, HTN, HSK, HFN⟩
                case measure => simp [intOf] <;> omega
            have e3' : ((c.toNat : Int) == 33) = false := beq_eq_false_iff_ne.2 (fun e => e3 (UInt8.toNat_inj.1 (by show c.toNat = 33; omega)))
            by_cases e4 : c = 61
            · subst e4
              have hsc := HSC.out
              rw [if_neg e1, if_neg e2, if_neg e3, if_pos rfl] at hsc
              clear HSC
              by_cases hE : l.length ≤ E
              · rw [fate_none hE] at hsc
                have HNO : Box (∀ t, mayT t = true → textU t ≠ l) := ⟨no_law (HRR.out.symm.trans hsc.symm)⟩
                have hEE : (s.size : Int) ≤ E := by have := HSZ.out; omega
                clear hsc
                have HXR := Box.mk ((HFR.out.blk HX2.out (by omega)))
                have HBR : Box (Below R0 w wr) := ⟨HB2.out.trans (HFR.out.below (by omega) (fun k _ e => by omega))⟩
                have r0 : World.cell? wr ⟨R0, 0, none⟩ = some (.int .i64 0) := (cell_blk HXR.out 0).trans rfl
                have r1 : World.cell? wr ⟨R0, 1, none⟩ = some (.slice none 0 0) := (cell_blk HXR.out 1).trans rfl
                have r2 : World.cell? wr ⟨R0, 2, none⟩ = some (.slice none 0 0) := (cell_blk HXR.out 2).trans rfl
                have r3 : World.cell? wr ⟨R0, 3, none⟩ = some (.slice none 0 0) := (cell_blk HXR.out 3).trans rfl
                have r4 : World.cell? wr ⟨R0, 4, none⟩ = some (.slice none 0 0) := (cell_blk HXR.out 4).trans rfl
                have f0 := free_blk HXR.out 0
                have f1 := free_blk HXR.out 1
                have f2 := free_blk HXR.out 2
                have f3 := free_blk HXR.out 3
                have f4 := free_blk HXR.out 4
                go_wp2
                obtain ⟨qb, hfin, hbw⟩ := res5 HXR.out HBR.out (a := .int .i64 0) (b := .slice none 0 0) (c := .slice none 0 0) (d := .slice none 0 0) (e := .slice none 0 0)
                have q0 := cell_blk qb 0
                have q1 := cell_blk qb 1
                have q2 := cell_blk qb 2
                have q3 := cell_blk qb 3
                have q4 := cell_blk qb 4
                simp only [List.getElem?_toArray, List.getElem?_cons_zero, List.getElem?_cons_succ] at q0 q1 q2 q3 q4
                have HBW := Box.mk hbw
                have HFI := Box.mk hfin
                clear hbw hfin qb r0 r1 r2 r3 r4 f0 f1 f2 f3 f4
                refine bodyPost_ret (v := .tuple #[.agg #[.int .i64 0, .slice none 0 0, .slice none 0 0, .slice none 0 0, .slice none 0 0], .int .i64 9]) (by simp [results, Tryd.results14, go_sem, q0, q1, q2, q3, q4]) rfl ⟨HBW.out, .inr ⟨HNO.out, rfl⟩⟩
              · have hEl : E < l.length := by omega
                have hEs : E < s.size := by rw [HSZ.out]; exact hEl
                have hEE : (E : Int) < s.size := by omega
                have hE0 : (0 : Int) ≤ E := by omega
                have hE1s : (E : Int) + 1 ≤ s.size := by omega
                rw [fate_step hEl] at hsc
                have hsi : l[E] = s[E]'hEs := by
                  have h1 := bts_get (s := s) hEs
                  have h2 := HSL.out
                  subst h2
                  exact h1
                rw [hsi] at hsc
                have hnum := rnum25_at s (by omega) l HSL.out (E + 1) ((E : Int) + 1) (by simp) (by omega)
                obtain ⟨hFd, hFa, hFb, hFc⟩ := numE_drop (l := l) (a := E + 1) (by omega)
                rw [hFd] at hsc
                generalize (numberF (l.drop (E + 1))).1 = N2 at hnum hsc hFc
                generalize numE l (E + 1) = E2 at hnum hsc hFa hFb hFc
                have HNV := Box.mk hnum
                have HSC := Box.mk hsc
                clear hsi hnum hsc hFd
                go_upto_region 28 with (go_at_call 31; (with_reducible refine (HNV.out _).mono ?_); rintro e w4 ⟨rfl, rfl⟩)
                have hcd : ∃ KD : Int, Box (KD = if s[E]'hEs = 100 then 1 else 2) ∧ (((((s[E]'hEs).toNat : Int) == 100) = true ∧ KD = 1) ∨ ((((s[E]'hEs).toNat : Int) == 100) = false ∧ KD = 2)) := by
                  by_cases e5 : s[E]'hEs = 100
                  · exact ⟨1, ⟨by rw [if_pos e5]⟩, .inl ⟨by rw [e5]; rfl, rfl⟩⟩
                  · exact ⟨2, ⟨by rw [if_neg e5]⟩, .inr ⟨beq_eq_false_iff_ne.2 (fun e => e5 (UInt8.toNat_inj.1 (by show (s[E]'hEs).toNat = 100; omega))), rfl⟩⟩
                obtain ⟨KD, HKD, hcd⟩ := hcd
                have HSC2 : Box ((if N2 < 0 then none else scanF k (l.drop E2) ⟨t.who, t.dn, t.ct, t.ms, t.fs ++ [(N, KD, N2)]⟩) = R) := ⟨by rw [HKD.out]; exact HSC.out⟩
                clear HSC HKD
                have hwrs := HFR.out.size
                rcases hcd with ⟨q5, rfl⟩ | ⟨q5, rfl⟩
                · go_upto_region 30 with fail
                  have HTF : Box (TRow (World.alloc wr (.cells #[.int .i64 N, .int .i64 1, .int .i64 N2] 36)) V2.heap.size TB t a1 n1 c1 a2 n2 c2 a3 n3 c3 a4 n4 c4) := ⟨HTR.out.later (fun k _ hk => Below.heap_alloc _ _ _ hk)⟩
                  have HFF : Box (Fr (fun k => k = TB) V2 (World.alloc wr (.cells #[.int .i64 N, .int .i64 1, .int .i64 N2] 36))) := ⟨HFR.out.alloc _⟩
                  have HXF : Box ((World.alloc wr (.cells #[.int .i64 N, .int .i64 1, .int .i64 N2] 36)).heap[wr.heap.size]? = some (.cells #[.int .i64 N, .int .i64 1, .int .i64 N2] 36 (0, 0))) := ⟨blk_new _ _⟩
                  generalize (World.alloc wr (.cells #[.int .i64 N, .int .i64 1, .int .i64 N2] 36)) = WF at HTF HFF HXF ⊢
                  generalize wr.heap.size = FB at HXF ⊢
                  have y0 : World.cell? WF ⟨FB, 0, none⟩ = some (.int .i64 N) := (cell_blk HXF.out 0).trans rfl
                  have y1 : World.cell? WF ⟨FB, 1, none⟩ = some (.int .i64 1) := (cell_blk HXF.out 1).trans rfl
                  have y2 : World.cell? WF ⟨FB, 2, none⟩ = some (.int .i64 N2) := (cell_blk HXF.out 2).trans rfl
                  have y4 : World.cell? WF ⟨TB, 4, none⟩ = some (.slice a4 n4 c4) := (cell_blk HTF.out.blk 4).trans rfl
                  have HTD : Box (TRow (World.alloc WF (.cells #[.int .i64 N, .int .i64 1, .int .i64 N2] 36)) V2.heap.size TB t a1 n1 c1 a2 n2 c2 a3 n3 c3 a4 n4 c4) := ⟨HTF.out.later (fun k _ hk => Below.heap_alloc _ _ _ hk)⟩
                  have HFD : Box (Fr (fun k => k = TB) V2 (World.alloc WF (.cells #[.int .i64 N, .int .i64 1, .int .i64 N2] 36))) := ⟨HFF.out.alloc _⟩
                  have hbase : V2.heap.size ≤ (World.alloc WF (.cells #[.int .i64 N, .int .i64 1, .int .i64 N2] 36)).heap.size := HFD.out.size
                  go_wp2_with (at_builtin; refine wpList_append_lies _ rfl (.tmp 113) (.tmp 115) 25 rfl V2.heap.size 36 j0 (.agg #[.int .i64 0, .int .i64 0, .int .i64 0]) 3 24 Tryd.underlying25 hj hy0 hyy1 hyy2 rfl (by decide) (.slice a4 n4 c4) n4 (fc3 t.fs) rfl HTD.out.r4 ⟨(World.heap WF).size, 0, none⟩ 1 1 [.int .i64 N, .int .i64 1, .int .i64 N2] rfl rfl (World.news_of_block (cs := #[.int .i64 N, .int .i64 1, .int .i64 N2]) (blk_new _ _)) ?h1q4x1 (by omega) ?b1q4x1 ?b2q4x1 hbase _ rfl ?nxtq4x1)
                  case h1q4x1 => simp [Value.oneCell']
                  case b1q4x1 => unfold maxLen; omega
                  case b2q4x1 => omega
                  case nxtq4x1 =>
                    intro g3 cq w3 ho3 hg3 hgn _
                    have HTN := Box.mk (HTD.out.app4 (x := (N, 1, N2)) hg3 ho3 (hgn.imp id (fun e => by rw [e]; simp)))
                    have hne3 : ∀ k, (Value.slice a4 n4 c4).ownBlock = some k → V2.heap.size ≤ k := fun k hk => (ownsRow_lt HTD.out.r4 hk).1
                    have HFN := Box.mk ((HFD.out.grown hg3 (fun k hk => .inr (hne3 k hk))).setCell (p := ⟨TB, 4, none⟩) (.inl rfl) (.slice (some ⟨g3, 0, none⟩) (n4 + 1) cq))
                    have hbb3 := (hg3.block TB (lt_blk HTD.out.blk) (fun e => by have := hne3 TB e.symm; have := HTD.out.low; omega)).trans HTD.out.blk
                    have q0 : World.cell? w3 ⟨TB, 4, none⟩ = some (.slice a4 n4 c4) := (cell_blk hbb3 4).trans rfl
                    have q1 := free_blk hbb3 4
                    clear ho3 hg3 hgn hne3 hbb3
                    go_upto_region 31 with fail
                    generalize World.setCell w3 ⟨TB, 4, none⟩ (.slice (some ⟨g3, 0, none⟩) (n4 + 1) cq) = V9 at HTN HFN ⊢
                    by_cases hn2 : N2 < 0
                    · have HNO : Box (∀ t, mayT t = true → textU t ≠ l) := ⟨no_law (HRR.out.symm.trans (by have := HSC2.out; rw [if_pos hn2] at this; exact this.symm))⟩
                      clear HSC2
                      have HXR := Box.mk ((HFN.out.blk HX2.out (by omega)))
                      have HBR : Box (Below R0 w V9) := ⟨HB2.out.trans (HFN.out.below (by omega) (fun k _ e => by omega))⟩
                      have r0 : World.cell? V9 ⟨R0, 0, none⟩ = some (.int .i64 0) := (cell_blk HXR.out 0).trans rfl
                      have r1 : World.cell? V9 ⟨R0, 1, none⟩ = some (.slice none 0 0) := (cell_blk HXR.out 1).trans rfl
                      have r2 : World.cell? V9 ⟨R0, 2, none⟩ = some (.slice none 0 0) := (cell_blk HXR.out 2).trans rfl
                      have r3 : World.cell? V9 ⟨R0, 3, none⟩ = some (.slice none 0 0) := (cell_blk HXR.out 3).trans rfl
                      have r4 : World.cell? V9 ⟨R0, 4, none⟩ = some (.slice none 0 0) := (cell_blk HXR.out 4).trans rfl
                      have f0 := free_blk HXR.out 0
                      have f1 := free_blk HXR.out 1
                      have f2 := free_blk HXR.out 2
                      have f3 := free_blk HXR.out 3
                      have f4 := free_blk HXR.out 4
                      go_wp2
                      obtain ⟨qb, hfin, hbw⟩ := res5 HXR.out HBR.out (a := .int .i64 0) (b := .slice none 0 0) (c := .slice none 0 0) (d := .slice none 0 0) (e := .slice none 0 0)
                      have q0 := cell_blk qb 0
                      have q1 := cell_blk qb 1
                      have q2 := cell_blk qb 2
                      have q3 := cell_blk qb 3
                      have q4 := cell_blk qb 4
                      simp only [List.getElem?_toArray, List.getElem?_cons_zero, List.getElem?_cons_succ] at q0 q1 q2 q3 q4
                      have HBW := Box.mk hbw
                      have HFI := Box.mk hfin
                      clear hbw hfin qb r0 r1 r2 r3 r4 f0 f1 f2 f3 f4
                      refine bodyPost_ret (v := .tuple #[.agg #[.int .i64 0, .slice none 0 0, .slice none 0 0, .slice none 0 0, .slice none 0 0], .int .i64 9]) (by simp [results, Tryd.results14, go_sem, q0, q1, q2, q3, q4]) rfl ⟨HBW.out, .inr ⟨HNO.out, rfl⟩⟩
                    · have HSK : Box (scanF k (l.drop E2) ⟨t.who, t.dn, t.ct, t.ms, t.fs ++ [(N, 1, N2)]⟩ = R) := ⟨by have := HSC2.out; rwa [if_neg hn2] at this⟩
                      have hFd := hFc (by omega)
                      have hn3 : ¬ N2 < 0 := hn2
                      clear HSC2
                      go_wp2
                      go_roundw
                      case rel => exact ⟨E2, k, _, a1, n1, c1, a2, n2, c2, a3, n3, c3, some ⟨g3, 0, none⟩, n4 + 1, cq, by omega, by first | rfl | go_num, by omega, by omega, HTN, HSK, HFN⟩
                      case measure => simp [intOf] <;> omega
                · go_upto_region 30 with fail
                  have HTF : Box (TRow (World.alloc wr (.cells #[.int .i64 N, .int .i64 2, .int .i64 N2] 36)) V2.heap.size TB t a1 n1 c1 a2 n2 c2 a3 n3 c3 a4 n4 c4) := ⟨HTR.out.later (fun k _ hk => Below.heap_alloc _ _ _ hk)⟩
                  have HFF : Box (Fr (fun k => k = TB) V2 (World.alloc wr (.cells #[.int .i64 N, .int .i64 2, .int .i64 N2] 36))) := ⟨HFR.out.alloc _⟩
                  have HXF : Box ((World.alloc wr (.cells #[.int .i64 N, .int .i64 2, .int .i64 N2] 36)).heap[wr.heap.size]? = some (.cells #[.int .i64 N, .int .i64 2, .int .i64 N2] 36 (0, 0))) := ⟨blk_new _ _⟩
                  generalize (World.alloc wr (.cells #[.int .i64 N, .int .i64 2, .int .i64 N2] 36)) = WF at HTF HFF HXF ⊢
                  generalize wr.heap.size = FB at HXF ⊢
                  have y0 : World.cell? WF ⟨FB, 0, none⟩ = some (.int .i64 N) := (cell_blk HXF.out 0).trans rfl
                  have y1 : World.cell? WF ⟨FB, 1, none⟩ = some (.int .i64 2) := (cell_blk HXF.out 1).trans rfl
                  have y2 : World.cell? WF ⟨FB, 2, none⟩ = some (.int .i64 N2) := (cell_blk HXF.out 2).trans rfl
                  have y4 : World.cell? WF ⟨TB, 4, none⟩ = some (.slice a4 n4 c4) := (cell_blk HTF.out.blk 4).trans rfl
                  have HTD : Box (TRow (World.alloc WF (.cells #[.int .i64 N, .int .i64 2, .int .i64 N2] 36)) V2.heap.size TB t a1 n1 c1 a2 n2 c2 a3 n3 c3 a4 n4 c4) := ⟨HTF.out.later (fun k _ hk => Below.heap_alloc _ _ _ hk)⟩
                  have HFD : Box (Fr (fun k => k = TB) V2 (World.alloc WF (.cells #[.int .i64 N, .int .i64 2, .int .i64 N2] 36))) := ⟨HFF.out.alloc _⟩
                  have hbase : V2.heap.size ≤ (World.alloc WF (.cells #[.int .i64 N, .int .i64 2, .int .i64 N2] 36)).heap.size := HFD.out.size
                  go_wp2_with (at_builtin; refine wpList_append_lies _ rfl (.tmp 113) (.tmp 115) 25 rfl V2.heap.size 36 j0 (.agg #[.int .i64 0, .int .i64 0, .int .i64 0]) 3 24 Tryd.underlying25 hj hy0 hyy1 hyy2 rfl (by decide) (.slice a4 n4 c4) n4 (fc3 t.fs) rfl HTD.out.r4 ⟨(World.heap WF).size, 0, none⟩ 1 1 [.int .i64 N, .int .i64 2, .int .i64 N2] rfl rfl (World.news_of_block (cs := #[.int .i64 N, .int .i64 2, .int .i64 N2]) (blk_new _ _)) ?h1q4x2 (by omega) ?b1q4x2 ?b2q4x2 hbase _ rfl ?nxtq4x2)
                  case h1q4x2 => simp [Value.oneCell']
                  case b1q4x2 => unfold maxLen; omega
                  case b2q4x2 => omega
                  case nxtq4x2 =>
                    intro g3 cq w3 ho3 hg3 hgn _
                    have HTN := Box.mk (HTD.out.app4 (x := (N, 2, N2)) hg3 ho3 (hgn.imp id (fun e => by rw [e]; simp)))
                    have hne3 : ∀ k, (Value.slice a4 n4 c4).ownBlock = some k → V2.heap.size ≤ k := fun k hk => (ownsRow_lt HTD.out.r4 hk).1
                    have HFN := Box.mk ((HFD.out.grown hg3 (fun k hk => .inr (hne3 k hk))).setCell (p := ⟨TB, 4, none⟩) (.inl rfl) (.slice (some ⟨g3, 0, none⟩) (n4 + 1) cq))
                    have hbb3 := (hg3.block TB (lt_blk HTD.out.blk) (fun e => by have := hne3 TB e.symm; have := HTD.out.low; omega)).trans HTD.out.blk
                    have q0 : World.cell? w3 ⟨TB, 4, none⟩ = some (.slice a4 n4 c4) := (cell_blk hbb3 4).trans rfl
                    have q1 := free_blk hbb3 4
                    clear ho3 hg3 hgn hne3 hbb3
                    go_upto_region 31 with fail
                    generalize World.setCell w3 ⟨TB, 4, none⟩ (.slice (some ⟨g3, 0, none⟩) (n4 + 1) cq) = V9 at HTN HFN ⊢
                    by_cases hn2 : N2 < 0
                    · have HNO : Box (∀ t, mayT t = true → textU t ≠ l) := ⟨no_law (HRR.out.symm.trans (by have := HSC2.out; rw [if_pos hn2] at this; exact this.symm))⟩
                      clear HSC2
                      have HXR := Box.mk ((HFN.out.blk HX2.out (by omega)))
                      have HBR : Box (Below R0 w V9) := ⟨HB2.out.trans (HFN.out.below (by omega) (fun k _ e => by omega))⟩
                      have r0 : World.cell? V9 ⟨R0, 0, none⟩ = some (.int .i64 0) := (cell_blk HXR.out 0).trans rfl
                      have r1 : World.cell? V9 ⟨R0, 1, none⟩ = some (.slice none 0 0) := (cell_blk HXR.out 1).trans rfl
                      have r2 : World.cell? V9 ⟨R0, 2, none⟩ = some (.slice none 0 0) := (cell_blk HXR.out 2).trans rfl
                      have r3 : World.cell? V9 ⟨R0, 3, none⟩ = some (.slice none 0 0) := (cell_blk HXR.out 3).trans rfl
                      have r4 : World.cell? V9 ⟨R0, 4, none⟩ = some (.slice none 0 0) := (cell_blk HXR.out 4).trans rfl
                      have f0 := free_blk HXR.out 0
                      have f1 := free_blk HXR.out 1
                      have f2 := free_blk HXR.out 2
                      have f3 := free_blk HXR.out 3
                      have f4 := free_blk HXR.out 4
                      go_wp2
                      obtain ⟨qb, hfin, hbw⟩ := res5 HXR.out HBR.out (a := .int .i64 0) (b := .slice none 0 0) (c := .slice none 0 0) (d := .slice none 0 0) (e := .slice none 0 0)
                      have q0 := cell_blk qb 0
                      have q1 := cell_blk qb 1
                      have q2 := cell_blk qb 2
                      have q3 := cell_blk qb 3
                      have q4 := cell_blk qb 4
                      simp only [List.getElem?_toArray, List.getElem?_cons_zero, List.getElem?_cons_succ] at q0 q1 q2 q3 q4
                      have HBW := Box.mk hbw
                      have HFI := Box.mk hfin
                      clear hbw hfin qb r0 r1 r2 r3 r4 f0 f1 f2 f3 f4
                      refine bodyPost_ret (v := .tuple #[.agg #[.int .i64 0, .slice none 0 0, .slice none 0 0, .slice none 0 0, .slice none 0 0], .int .i64 9]) (by simp [results, Tryd.results14, go_sem, q0, q1, q2, q3, q4]) rfl ⟨HBW.out, .inr ⟨HNO.out, rfl⟩⟩
                    · have HSK : Box (scanF k (l.drop E2) ⟨t.who, t.dn, t.ct, t.ms, t.fs ++ [(N, 2, N2)]⟩ = R) := ⟨by have := HSC2.out; rwa [if_neg hn2] at this⟩
                      have hFd := hFc (by omega)
                      have hn3 : ¬ N2 < 0 := hn2
                      clear HSC2
                      go_wp2
                      go_roundw
                      case rel => exact ⟨E2, k, _, a1, n1, c1, a2, n2, c2, a3, n3, c3, some ⟨g3, 0, none⟩, n4 + 1, cq, by omega, by first | rfl | go_num, by omega, by omega, HTN, HSK, HFN⟩
                      case measure => simp [intOf] <;> omega
            have e4' : ((c.toNat : Int) == 61) = false := beq_eq_false_iff_ne.2 (fun e => e4 (UInt8.toNat_inj.1 (by show c.toNat = 61; omega)))
            have HNO : Box (∀ t, mayT t = true → textU t ≠ l) := ⟨no_law (HRR.out.symm.trans (by have := HSC.out; rw [if_neg e1, if_neg e2, if_neg e3, if_neg e4] at this; exact this.symm))⟩
            clear HSC e1 e2 e3 e4
            have HXR := Box.mk ((HFR.out.blk HX2.out (by omega)))
            have HBR : Box (Below R0 w wr) := ⟨HB2.out.trans (HFR.out.below (by omega) (fun k _ e => by omega))⟩
            have r0 : World.cell? wr ⟨R0, 0, none⟩ = some (.int .i64 0) := (cell_blk HXR.out 0).trans rfl
            have r1 : World.cell? wr ⟨R0, 1, none⟩ = some (.slice none 0 0) := (cell_blk HXR.out 1).trans rfl
            have r2 : World.cell? wr ⟨R0, 2, none⟩ = some (.slice none 0 0) := (cell_blk HXR.out 2).trans rfl
            have r3 : World.cell? wr ⟨R0, 3, none⟩ = some (.slice none 0 0) := (cell_blk HXR.out 3).trans rfl
            have r4 : World.cell? wr ⟨R0, 4, none⟩ = some (.slice none 0 0) := (cell_blk HXR.out 4).trans rfl
            have f0 := free_blk HXR.out 0
            have f1 := free_blk HXR.out 1
            have f2 := free_blk HXR.out 2
            have f3 := free_blk HXR.out 3
            have f4 := free_blk HXR.out 4
            go_wp2
            obtain ⟨qb, hfin, hbw⟩ := res5 HXR.out HBR.out (a := .int .i64 0) (b := .slice none 0 0) (c := .slice none 0 0) (d := .slice none 0 0) (e := .slice none 0 0)
            have q0 := cell_blk qb 0
            have q1 := cell_blk qb 1
            have q2 := cell_blk qb 2
            have q3 := cell_blk qb 3
            have q4 := cell_blk qb 4
            simp only [List.getElem?_toArray, List.getElem?_cons_zero, List.getElem?_cons_succ] at q0 q1 q2 q3 q4
            have HBW := Box.mk hbw
            have HFI := Box.mk hfin
            clear hbw hfin qb r0 r1 r2 r3 r4 f0 f1 f2 f3 f4
            refine bodyPost_ret (v := .tuple #[.agg #[.int .i64 0, .slice none 0 0, .slice none 0 0, .slice none 0 0, .slice none 0 0], .int .i64 9]) (by simp [results, Tryd.results14, go_sem, q0, q1, q2, q3, q4]) rfl ⟨HBW.out, .inr ⟨HNO.out, rfl⟩⟩
        · obtain rfl : i = l.length := by omega
          have hR : R = some t := by
            obtain ⟨k, rfl⟩ : ∃ k', k = k' + 1 := ⟨k - 1, by omega⟩
            have := HSC.out
            rw [List.drop_length, scanF] at this
            exact this.symm
          have hii : ¬ (l.length : Int) < s.size := by have := HSZ.out; omega
          have HLW := Box.mk (some_law (HRR.out.symm.trans hR))
          have HTX := Box.mk (rttext_any t a1 n1 c1 a2 n2 c2 a3 n3 c3 a4 n4 c4 wr (HTR.out.tk (by omega) (by omega) (by omega) (by omega)) (by omega) (by omega) (by omega) (by omega))
          have hss : s.toList = l := by rw [Lib.toList_data]; exact HSL.out.symm
          have HBR : Box (Below R0 w wr) := ⟨HB2.out.trans (HFR.out.below (by omega) (fun k _ e => by omega))⟩
          have HXR := Box.mk (HFR.out.blk HX2.out (by omega))
          have hblk := HTR.out.blk
          have z0 : World.cell? wr ⟨TB, 0, none⟩ = some (.int .i64 t.who) := (cell_blk hblk 0).trans rfl
          have z1 : World.cell? wr ⟨TB, 1, none⟩ = some (.slice a1 n1 c1) := (cell_blk hblk 1).trans rfl
          have z2 : World.cell? wr ⟨TB, 2, none⟩ = some (.slice a2 n2 c2) := (cell_blk hblk 2).trans rfl
          have z3 : World.cell? wr ⟨TB, 3, none⟩ = some (.slice a3 n3 c3) := (cell_blk hblk 3).trans rfl
          have z4 : World.cell? wr ⟨TB, 4, none⟩ = some (.slice a4 n4 c4) := (cell_blk hblk 4).trans rfl
          have zf := free_blk hblk 0
          clear hblk
          have hRw : R0 < wr.heap.size := lt_blk HXR.out
          clear HSC hR
          by_cases hte : textT t = l
          · have hq : (textT t != s.toList) = false := by rw [hss]; simp [hte]
            have hq2 : (textT t == s.toList) = true := by rw [hss]; simp [hte]
            have hmay : mayT t = true := by
              cases hm : mayT t with
              | true => rfl
              | false =>
                unfold textT at hte
                rw [hm] at hte
                have : l.length = 0 := by rw [← hte]; rfl
                omega
            have HMT : Box (mayT t = true ∧ textU t = l) := ⟨hmay, by unfold textT at hte; rw [if_pos hmay] at hte; exact hte⟩
            clear hte hmay HLW hss
            go_upto_region 37 with (go_at_call 9; (with_reducible refine HTX.out.mono ?_); rintro e w10 ⟨rfl, hb⟩; have HB10 := Box.mk hb; clear hb)
            have HTZ := Box.mk (HTR.out.later (fun k _ hk => HB10.out.block k hk))
            have HXZ := Box.mk ((HB10.out.block R0 hRw).trans HXR.out)
            have HBZ : Box (Below R0 w w10) := ⟨HBR.out.trans (HB10.out.mono (by omega))⟩
            have hblk := HTZ.out.blk
            have v0 : World.cell? w10 ⟨TB, 0, none⟩ = some (.int .i64 t.who) := (cell_blk hblk 0).trans rfl
            have v1 : World.cell? w10 ⟨TB, 1, none⟩ = some (.slice a1 n1 c1) := (cell_blk hblk 1).trans rfl
            have v2 : World.cell? w10 ⟨TB, 2, none⟩ = some (.slice a2 n2 c2) := (cell_blk hblk 2).trans rfl
            have v3 : World.cell? w10 ⟨TB, 3, none⟩ = some (.slice a3 n3 c3) := (cell_blk hblk 3).trans rfl
            have v4 : World.cell? w10 ⟨TB, 4, none⟩ = some (.slice a4 n4 c4) := (cell_blk hblk 4).trans rfl
            clear hblk
            have r0 : World.cell? w10 ⟨R0, 0, none⟩ = some (.int .i64 0) := (cell_blk HXZ.out 0).trans rfl
            have r1 : World.cell? w10 ⟨R0, 1, none⟩ = some (.slice none 0 0) := (cell_blk HXZ.out 1).trans rfl
            have r2 : World.cell? w10 ⟨R0, 2, none⟩ = some (.slice none 0 0) := (cell_blk HXZ.out 2).trans rfl
            have r3 : World.cell? w10 ⟨R0, 3, none⟩ = some (.slice none 0 0) := (cell_blk HXZ.out 3).trans rfl
            have r4 : World.cell? w10 ⟨R0, 4, none⟩ = some (.slice none 0 0) := (cell_blk HXZ.out 4).trans rfl
            have f0 := free_blk HXZ.out 0
            have f1 := free_blk HXZ.out 1
            have f2 := free_blk HXZ.out 2
            have f3 := free_blk HXZ.out 3
            have f4 := free_blk HXZ.out 4
            go_wp2
            obtain ⟨qb, hfin, hbw⟩ := res5 HXZ.out HBZ.out (a := .int .i64 t.who) (b := .slice a1 n1 c1) (c := .slice a2 n2 c2) (d := .slice a3 n3 c3) (e := .slice a4 n4 c4)
            have q0 := cell_blk qb 0
            have q1 := cell_blk qb 1
            have q2 := cell_blk qb 2
            have q3 := cell_blk qb 3
            have q4 := cell_blk qb 4
            simp only [List.getElem?_toArray, List.getElem?_cons_zero, List.getElem?_cons_succ] at q0 q1 q2 q3 q4
            have HBW := Box.mk hbw
            have HFI := Box.mk hfin
            clear hbw hfin qb r0 r1 r2 r3 r4 f0 f1 f2 f3 f4
            refine bodyPost_ret (v := .tuple #[.agg #[.int .i64 t.who, .slice a1 n1 c1, .slice a2 n2 c2, .slice a3 n3 c3, .slice a4 n4 c4], .int .i64 0]) (by simp [results, Tryd.results14, go_sem, q0, q1, q2, q3, q4]) rfl ⟨HBW.out, .inl ⟨t, a1, n1, c1, a2, n2, c2, a3, n3, c3, a4, n4, c4, HMT.out.1, HMT.out.2, rfl, (HTZ.out.later (fun k hk1 hk => HFI.out.block k hk (fun e => by omega))).tk (by omega) (by omega) (by omega) (by omega)⟩⟩
          · have hq : (textT t != s.toList) = true := by rw [hss]; simp [hte]
            have hq2 : (textT t == s.toList) = false := by rw [hss]; simp [hte]
            have HNO : Box (∀ t, mayT t = true → textU t ≠ l) := ⟨fun t' h1 h2 => by
              have := HLW.out t' h1 h2
              subst this
              exact hte (by unfold textT; rw [if_pos h1]; exact h2)⟩
            clear hte HLW hss
            go_upto_region 36 with (go_at_call 9; (with_reducible refine HTX.out.mono ?_); rintro e w10 ⟨rfl, hb⟩; have HB10 := Box.mk hb; clear hb)
            have HXZ := Box.mk ((HB10.out.block R0 hRw).trans HXR.out)
            have HBZ : Box (Below R0 w w10) := ⟨HBR.out.trans (HB10.out.mono (by omega))⟩
            have r0 : World.cell? w10 ⟨R0, 0, none⟩ = some (.int .i64 0) := (cell_blk HXZ.out 0).trans rfl
            have r1 : World.cell? w10 ⟨R0, 1, none⟩ = some (.slice none 0 0) := (cell_blk HXZ.out 1).trans rfl
            have r2 : World.cell? w10 ⟨R0, 2, none⟩ = some (.slice none 0 0) := (cell_blk HXZ.out 2).trans rfl
            have r3 : World.cell? w10 ⟨R0, 3, none⟩ = some (.slice none 0 0) := (cell_blk HXZ.out 3).trans rfl
            have r4 : World.cell? w10 ⟨R0, 4, none⟩ = some (.slice none 0 0) := (cell_blk HXZ.out 4).trans rfl
            have f0 := free_blk HXZ.out 0
            have f1 := free_blk HXZ.out 1
            have f2 := free_blk HXZ.out 2
            have f3 := free_blk HXZ.out 3
            have f4 := free_blk HXZ.out 4
            go_wp2
            obtain ⟨qb, hfin, hbw⟩ := res5 HXZ.out HBZ.out (a := .int .i64 0) (b := .slice none 0 0) (c := .slice none 0 0) (d := .slice none 0 0) (e := .slice none 0 0)
            have q0 := cell_blk qb 0
            have q1 := cell_blk qb 1
            have q2 := cell_blk qb 2
            have q3 := cell_blk qb 3
            have q4 := cell_blk qb 4
            simp only [List.getElem?_toArray, List.getElem?_cons_zero, List.getElem?_cons_succ] at q0 q1 q2 q3 q4
            have HBW := Box.mk hbw
            have HFI := Box.mk hfin
            clear hbw hfin qb r0 r1 r2 r3 r4 f0 f1 f2 f3 f4
            refine bodyPost_ret (v := .tuple #[.agg #[.int .i64 0, .slice none 0 0, .slice none 0 0, .slice none 0 0, .slice none 0 0], .int .i64 9]) (by simp [results, Tryd.results14, go_sem, q0, q1, q2, q3, q4]) rfl ⟨HBW.out, .inr ⟨HNO.out, rfl⟩⟩
    · go_upto_block 0 with fail
      have HT2 := HT1
      have HX2 := HX1
      have HB2 := HB1
      generalize V1 = V2 at HT2 HX2 HB2 ⊢
      clear HX1 HT1 HB1 HS1 t0 tf
      subst hq3
      subst hq4
      have hV2 : TB < V2.heap.size := lt_blk HT2.out
      go_wp2
      go_loopw [5, 8, 9, 10, 11, 12] (fun s5 _ _ _ _ _ wr => ∃ (i k : Nat) (t : Tk) (a1 : Option Addr) (n1 c1 : Nat) (a2 : Option Addr) (n2 c2 : Nat) (a3 : Option Addr) (n3 c3 : Nat) (a4 : Option Addr) (n4 c4 : Nat), i ≤ l.length ∧ s5 = .int .i64 i ∧ n1 + n2 + n3 + n4 ≤ i ∧ l.length - i < k ∧ Box (TRow wr V2.heap.size TB t a1 n1 c1 a2 n2 c2 a3 n3 c3 a4 n4 c4) ∧ Box (scanF k (l.drop i) t = R) ∧ Box (Fr (fun k => k = TB) V2 wr)) (fun s5 _ _ _ _ _ _ => l.length - (intOf s5).toNat)
      case atStart => exact ⟨1, l.length + 1, ⟨-1, [], [], [], []⟩, none, 0, 0, none, 0, 0, none, 0, 0, none, 0, 0, hI2, rfl, by omega, by omega, ⟨⟨HT2.out, World.ownsRow_nil _ _ _ _, World.ownsRow_nil _ _ _ _, World.ownsRow_nil _ _ _ _, World.ownsRow_nil _ _ _ _, hV2, fun k h => (by cases h), fun k h => (by cases h), fun k h => (by cases h), fun k h => (by cases h), fun k h => (by cases h), fun k h => (by cases h)⟩⟩, ⟨HR0.out.symm⟩, ⟨Fr.refl _ _⟩⟩
      case round =>
        obtain ⟨i, k, t, a1, n1, c1, a2, n2, c2, a3, n3, c3, a4, n4, c4, hil, rfl, hns, hk, HTR, HSC, HFR⟩ := hrel
        clear HR0 HT2
        by_cases hlt : i < l.length
        · have hp : i < s.size := by rw [HSZ.out]; exact hlt
          have hii : (i : Int) < s.size := by omega
          obtain ⟨k, rfl⟩ : ∃ k', k = k' + 1 := ⟨k - 1, by omega⟩
          have hnum := rnum25_at s (by omega) l HSL.out (i + 1) ((i : Int) + 1) (by simp) (by omega)
          obtain ⟨_, hEa, hEb, hEc⟩ := numE_drop (l := l) (a := i + 1) (by omega)
          have hsc := HSC.out
          have hsi : l[i] = s[i]'hp := by
            have h1 := bts_get (s := s) hp
            have h2 := HSL.out
            subst h2
            exact h1
          rw [scan_step hlt hsi] at hsc
          generalize (numberF (l.drop (i + 1))).1 = N at hnum hsc hEc
          generalize numE l (i + 1) = E at hnum hsc hEa hEb hEc
          have HNU := Box.mk hnum
          clear hsi HSC hnum
          have hiv : (0 : Int) ≤ i := by omega
          have hiw : (i : Int) + 1 ≤ s.size := by omega
          by_cases hn : N < 0
          · rw [if_pos hn] at hsc
            have HNO : Box (∀ t, mayT t = true → textU t ≠ l) := ⟨no_law (HRR.out.symm.trans hsc.symm)⟩
            clear hsc hEc
            have HXR := Box.mk ((HFR.out.blk HX2.out (by omega)))
            have HBR : Box (Below R0 w wr) := ⟨HB2.out.trans (HFR.out.below (by omega) (fun k _ e => by omega))⟩
            have r0 : World.cell? wr ⟨R0, 0, none⟩ = some (.int .i64 0) := (cell_blk HXR.out 0).trans rfl
            have r1 : World.cell? wr ⟨R0, 1, none⟩ = some (.slice none 0 0) := (cell_blk HXR.out 1).trans rfl
            have r2 : World.cell? wr ⟨R0, 2, none⟩ = some (.slice none 0 0) := (cell_blk HXR.out 2).trans rfl
            have r3 : World.cell? wr ⟨R0, 3, none⟩ = some (.slice none 0 0) := (cell_blk HXR.out 3).trans rfl
            have r4 : World.cell? wr ⟨R0, 4, none⟩ = some (.slice none 0 0) := (cell_blk HXR.out 4).trans rfl
            have f0 := free_blk HXR.out 0
            have f1 := free_blk HXR.out 1
            have f2 := free_blk HXR.out 2
            have f3 := free_blk HXR.out 3
            have f4 := free_blk HXR.out 4
            go_wp2_with (go_at_call 31; (with_reducible refine (HNU.out _).mono ?_); rintro e w3 ⟨rfl, rfl⟩)
            obtain ⟨qb, hfin, hbw⟩ := res5 HXR.out HBR.out (a := .int .i64 0) (b := .slice none 0 0) (c := .slice none 0 0) (d := .slice none 0 0) (e := .slice none 0 0)
            have q0 := cell_blk qb 0
            have q1 := cell_blk qb 1
            have q2 := cell_blk qb 2
            have q3 := cell_blk qb 3
            have q4 := cell_blk qb 4
            simp only [List.getElem?_toArray, List.getElem?_cons_zero, List.getElem?_cons_succ] at q0 q1 q2 q3 q4
            have HBW := Box.mk hbw
            have HFI := Box.mk hfin
            clear hbw hfin qb r0 r1 r2 r3 r4 f0 f1 f2 f3 f4
            refine bodyPost_ret (v := .tuple #[.agg #[.int .i64 0, .slice none 0 0, .slice none 0 0, .slice none 0 0, .slice none 0 0], .int .i64 9]) (by simp [results, Tryd.results14, go_sem, q0, q1, q2, q3, q4]) rfl ⟨HBW.out, .inr ⟨HNO.out, rfl⟩⟩
          · rw [if_neg hn] at hsc
            have hEd := hEc (by omega)
            clear hEc
            have hn0 : ¬ N < 0 := hn
            have hblk := HTR.out.blk
            have z0 : World.cell? wr ⟨TB, 0, none⟩ = some (.int .i64 t.who) := (cell_blk hblk 0).trans rfl
            have z1 : World.cell? wr ⟨TB, 1, none⟩ = some (.slice a1 n1 c1) := (cell_blk hblk 1).trans rfl
            have z2 : World.cell? wr ⟨TB, 2, none⟩ = some (.slice a2 n2 c2) := (cell_blk hblk 2).trans rfl
            have z3 : World.cell? wr ⟨TB, 3, none⟩ = some (.slice a3 n3 c3) := (cell_blk hblk 3).trans rfl
            have z4 : World.cell? wr ⟨TB, 4, none⟩ = some (.slice a4 n4 c4) := (cell_blk hblk 4).trans rfl
            have zf := free_blk hblk 0
            clear hblk
            have HSC := Box.mk hsc
            clear hsc
            go_upto_region 17 with (go_at_call 31; (with_reducible refine (HNU.out _).mono ?_); rintro e w3 ⟨rfl, rfl⟩)
            generalize s[i]'hp = c at HSC ⊢
            by_cases e1 : c = 43
            · subst e1
              have HSK : Box (scanF k (l.drop E) ⟨t.who, t.dn ++ [N], t.ct, t.ms, t.fs⟩ = R) := ⟨by have := HSC.out; rwa [if_pos rfl] at this⟩
              clear HSC
              have HTD : Box (TRow (World.alloc wr (.cells #[.int .i64 N] 3)) V2.heap.size TB t a1 n1 c1 a2 n2 c2 a3 n3 c3 a4 n4 c4) := ⟨HTR.out.later (fun k _ hk => Below.heap_alloc _ _ _ hk)⟩
              have HFD : Box (Fr (fun k => k = TB) V2 (World.alloc wr (.cells #[.int .i64 N] 3))) := ⟨HFR.out.alloc _⟩
              have hbase : V2.heap.size ≤ (World.alloc wr (.cells #[.int .i64 N] 3)).heap.size := HFD.out.size
              go_wp2_with (at_builtin; refine wpList_append_lies _ rfl (.tmp 64) (.tmp 66) 22 rfl V2.heap.size 3 i0 (.int .i64 0) 1 8 Tryd.underlying22 hi hz0 hzz1 hzz2 rfl (by decide) (.slice a1 n1 c1) n1 (ints t.dn) rfl HTD.out.r1 ⟨(World.heap wr).size, 0, none⟩ 1 1 [.int .i64 N] rfl rfl (World.news_of_block (cs := #[.int .i64 N]) (blk_new _ _)) ?h1q1 (by omega) ?b1q1 ?b2q1 hbase _ rfl ?nxtq1)
              case h1q1 => simp [Value.oneCell']
              case b1q1 => unfold maxLen; omega
              case b2q1 => omega
              case nxtq1 =>
                intro g3 cq w3 ho3 hg3 hgn _
                have HTN := Box.mk (HTD.out.app1 (x := N) hg3 ho3 (hgn.imp id (fun e => by rw [e]; simp)))
                have hne3 : ∀ k, (Value.slice a1 n1 c1).ownBlock = some k → V2.heap.size ≤ k := fun k hk => (ownsRow_lt HTD.out.r1 hk).1
                have HFN := Box.mk ((HFD.out.grown hg3 (fun k hk => .inr (hne3 k hk))).setCell (p := ⟨TB, 1, none⟩) (.inl rfl) (.slice (some ⟨g3, 0, none⟩) (n1 + 1) cq))
                have hbb3 := (hg3.block TB (lt_blk HTD.out.blk) (fun e => by have := hne3 TB e.symm; have := HTD.out.low; omega)).trans HTD.out.blk
                have q0 : World.cell? w3 ⟨TB, 1, none⟩ = some (.slice a1 n1 c1) := (cell_blk hbb3 1).trans rfl
                have q1 := free_blk hbb3 1
                clear ho3 hg3 hgn hne3 hbb3
                go_wp2
                go_roundw
                case rel => exact ⟨E, k, _, some ⟨g3, 0, none⟩, n1 + 1, cq, a2, n2, c2, a3, n3, c3, a4, n4, c4, by omega, by first | rfl | go_num, by omega, by omega, HTN, HSK, HFN⟩
                case measure => simp [intOf] <;> omega
            have e1' : ((c.toNat : Int) == 43) = false := beq_eq_false_iff_ne.2 (fun e => e1 (UInt8.toNat_inj.1 (by show c.toNat = 43; omega)))
            by_cases e2 : c = 47
            · subst e2
              have HSK : Box (scanF k (l.drop E) ⟨t.who, t.dn, t.ct ++ [N], t.ms, t.fs⟩ = R) := ⟨by have := HSC.out; rwa [if_neg e1, if_pos rfl] at this⟩
              clear HSC
              have HTD : Box (TRow (World.alloc wr (.cells #[.int .i64 N] 3)) V2.heap.size TB t a1 n1 c1 a2 n2 c2 a3 n3 c3 a4 n4 c4) := ⟨HTR.out.later (fun k _ hk => Below.heap_alloc _ _ _ hk)⟩
              have HFD : Box (Fr (fun k => k = TB) V2 (World.alloc wr (.cells #[.int .i64 N] 3))) := ⟨HFR.out.alloc _⟩
              have hbase : V2.heap.size ≤ (World.alloc wr (.cells #[.int .i64 N] 3)).heap.size := HFD.out.size
              go_wp2_with (at_builtin; refine wpList_append_lies _ rfl (.tmp 74) (.tmp 76) 22 rfl V2.heap.size 3 i0 (.int .i64 0) 1 8 Tryd.underlying22 hi hz0 hzz1 hzz2 rfl (by decide) (.slice a2 n2 c2) n2 (ints t.ct) rfl HTD.out.r2 ⟨(World.heap wr).size, 0, none⟩ 1 1 [.int .i64 N] rfl rfl (World.news_of_block (cs := #[.int .i64 N]) (blk_new _ _)) ?h1q2 (by omega) ?b1q2 ?b2q2 hbase _ rfl ?nxtq2)
              case h1q2 => simp [Value.oneCell']
              case b1q2 => unfold maxLen; omega
              case b2q2 => omega
              case nxtq2 =>
                intro g3 cq w3 ho3 hg3 hgn _
                have HTN := Box.mk (HTD.out.app2 (x := N) hg3 ho3 (hgn.imp id (fun e => by rw [e]; simp)))
                have hne3 : ∀ k, (Value.slice a2 n2 c2).ownBlock = some k → V2.heap.size ≤ k := fun k hk => (ownsRow_lt HTD.out.r2 hk).1
                have HFN := Box.mk ((HFD.out.grown hg3 (fun k hk => .inr (hne3 k hk))).setCell (p := ⟨TB, 2, none⟩) (.inl rfl) (.slice (some ⟨g3, 0, none⟩) (n2 + 1) cq))
                have hbb3 := (hg3.block TB (lt_blk HTD.out.blk) (fun e => by have := hne3 TB e.symm; have := HTD.out.low; omega)).trans HTD.out.blk
                have q0 : World.cell? w3 ⟨TB, 2, none⟩ = some (.slice a2 n2 c2) := (cell_blk hbb3 2).trans rfl
                have q1 := free_blk hbb3 2
                clear ho3 hg3 hgn hne3 hbb3
                go_wp2
                go_roundw
                case rel => exact ⟨E, k, _, a1, n1, c1, some ⟨g3, 0, none⟩, n2 + 1, cq, a3, n3, c3, a4, n4, c4, by omega, by first | rfl | go_num, by omega, by omega, HTN, HSK, HFN⟩
                case measure => simp [intOf] <;> omega
            have e2' : ((c.toNat : Int) == 47) = false := beq_eq_false_iff_ne.2 (fun e => e2 (UInt8.toNat_inj.1 (by show c.toNat = 47; omega)))
            by_cases e3 : c = 33
            · subst e3
              have HSK : Box (scanF k (l.drop E) ⟨t.who, t.dn, t.ct, t.ms ++ [N], t.fs⟩ = R) := ⟨by have := HSC.out; rwa [if_neg e1, if_neg e2, if_pos rfl] at this⟩
              clear HSC
              have HTD : Box (TRow (World.alloc wr (.cells #[.int .i64 N] 3)) V2.heap.size TB t a1 n1 c1 a2 n2 c2 a3 n3 c3 a4 n4 c4) := ⟨HTR.out.later (fun k _ hk => Below.heap_alloc _ _ _ hk)⟩
              have HFD : Box (Fr (fun k => k = TB) V2 (World.alloc wr (.cells #[.int .i64 N] 3))) := ⟨HFR.out.alloc _⟩
              have hbase : V2.heap.size ≤ (World.alloc wr (.cells #[.int .i64 N] 3)).heap.size := HFD.out.size
              go_wp2_with (at_builtin; refine wpList_append_lies _ rfl (.tmp 84) (.tmp 86) 22 rfl V2.heap.size 3 i0 (.int .i64 0) 1 8 Tryd.underlying22 hi hz0 hzz1 hzz2 rfl (by decide) (.slice a3 n3 c3) n3 (ints t.ms) rfl HTD.out.r3 ⟨(World.heap wr).size, 0, none⟩ 1 1 [.int .i64 N] rfl rfl (World.news_of_block (cs := #[.int .i64 N]) (blk_new _ _)) ?h1q3 (by omega) ?b1q3 ?b2q3 hbase _ rfl ?nxtq3)
              case h1q3 => simp [Value.oneCell']
              case b1q3 => unfold maxLen; omega
              case b2q3 => omega
              case nxtq3 =>
                intro g3 cq w3 ho3 hg3 hgn _
                have HTN := Box.mk (HTD.out.app3 (x := N) hg3 ho3 (hgn.imp id (fun e => by rw [e]; simp)))
                have hne3 : ∀ k, (Value.slice a3 n3 c3).ownBlock = some k → V2.heap.size ≤ k := fun k hk => (ownsRow_lt HTD.out.r3 hk).1
                have HFN := Box.mk ((HFD.out.grown hg3 (fun k hk => .inr (hne3 k hk))).setCell (p := ⟨TB, 3, none⟩) (.inl rfl) (.slice (some ⟨g3, 0, none⟩) (n3 + 1) cq))
                have hbb3 := (hg3.block TB (lt_blk HTD.out.blk) (fun e => by have := hne3 TB e.symm; have := HTD.out.low; omega)).trans HTD.out.blk
                have q0 : World.cell? w3 ⟨TB, 3, none⟩ = some (.slice a3 n3 c3) := (cell_blk hbb3 3).trans rfl
                have q1 := free_blk hbb3 3
                clear ho3 hg3 hgn hne3 hbb3
                go_wp2
                go_roundw
                case rel => exact ⟨E, k, _, a1, n1, c1, a2, n2, c2, some ⟨g3, 0, none⟩, n3 + 1, cq, a4, n4, c4, by omega, by first | rfl | go_num, by omega, by omega, HTN, HSK, HFN⟩
                case measure => simp [intOf] <;> omega
            have e3' : ((c.toNat : Int) == 33) = false := beq_eq_false_iff_ne.2 (fun e => e3 (UInt8.toNat_inj.1 (by show c.toNat = 33; omega)))
            by_cases e4 : c = 61
            · subst e4
              have hsc := HSC.out
              rw [if_neg e1, if_neg e2, if_neg e3, if_pos rfl] at hsc
              clear HSC
              by_cases hE : l.length ≤ E
              · rw [fate_none hE] at hsc
                have HNO : Box (∀ t, mayT t = true → textU t ≠ l) := ⟨no_law (HRR.out.symm.trans hsc.symm)⟩
                have hEE : (s.size : Int) ≤ E := by have := HSZ.out; omega
                clear hsc
                have HXR := Box.mk ((HFR.out.blk HX2.out (by omega)))
                have HBR : Box (Below R0 w wr) := ⟨HB2.out.trans (HFR.out.below (by omega) (fun k _ e => by omega))⟩
                have r0 : World.cell? wr ⟨R0, 0, none⟩ = some (.int .i64 0) := (cell_blk HXR.out 0).trans rfl
                have r1 : World.cell? wr ⟨R0, 1, none⟩ = some (.slice none 0 0) := (cell_blk HXR.out 1).trans rfl
                have r2 : World.cell? wr ⟨R0, 2, none⟩ = some (.slice none 0 0) := (cell_blk HXR.out 2).trans rfl
                have r3 : World.cell? wr ⟨R0, 3, none⟩ = some (.slice none 0 0) := (cell_blk HXR.out 3).trans rfl
                have r4 : World.cell? wr ⟨R0, 4, none⟩ = some (.slice none 0 0) := (cell_blk HXR.out 4).trans rfl
                have f0 := free_blk HXR.out 0
                have f1 := free_blk HXR.out 1
                have f2 := free_blk HXR.out 2
                have f3 := free_blk HXR.out 3
                have f4 := free_blk HXR.out 4
                go_wp2
                obtain ⟨qb, hfin, hbw⟩ := res5 HXR.out HBR.out (a := .int .i64 0) (b := .slice none 0 0) (c := .slice none 0 0) (d := .slice none 0 0) (e := .slice none 0 0)
                have q0 := cell_blk qb 0
                have q1 := cell_blk qb 1
                have q2 := cell_blk qb 2
                have q3 := cell_blk qb 3
                have q4 := cell_blk qb 4
                simp only [List.getElem?_toArray, List.getElem?_cons_zero, List.getElem?_cons_succ] at q0 q1 q2 q3 q4
                have HBW := Box.mk hbw
                have HFI := Box.mk hfin
                clear hbw hfin qb r0 r1 r2 r3 r4 f0 f1 f2 f3 f4
                refine bodyPost_ret (v := .tuple #[.agg #[.int .i64 0, .slice none 0 0, .slice none 0 0, .slice none 0 0, .slice none 0 0], .int .i64 9]) (by simp [results, Tryd.results14, go_sem, q0, q1, q2, q3, q4]) rfl ⟨HBW.out, .inr ⟨HNO.out, rfl⟩⟩
              · have hEl : E < l.length := by omega
                have hEs : E < s.size := by rw [HSZ.out]; exact hEl
                have hEE : (E : Int) < s.size := by omega
                have hE0 : (0 : Int) ≤ E := by omega
                have hE1s : (E : Int) + 1 ≤ s.size := by omega
                rw [fate_step hEl] at hsc
                have hsi : l[E] = s[E]'hEs := by
                  have h1 := bts_get (s := s) hEs
                  have h2 := HSL.out
                  subst h2
                  exact h1
                rw [hsi] at hsc
                have hnum := rnum25_at s (by omega) l HSL.out (E + 1) ((E : Int) + 1) (by simp) (by omega)
                obtain ⟨hFd, hFa, hFb, hFc⟩ := numE_drop (l := l) (a := E + 1) (by omega)
                rw [hFd] at hsc
                generalize (numberF (l.drop (E + 1))).1 = N2 at hnum hsc hFc
                generalize numE l (E + 1) = E2 at hnum hsc hFa hFb hFc
                have HNV := Box.mk hnum
                have HSC := Box.mk hsc
                clear hsi hnum hsc hFd
                go_upto_region 28 with (go_at_call 31; (with_reducible refine (HNV.out _).mono ?_); rintro e w4 ⟨rfl, rfl⟩)
                have hcd : ∃ KD : Int, Box (KD = if s[E]'hEs = 100 then 1 else 2) ∧ (((((s[E]'hEs).toNat : Int) == 100) = true ∧ KD = 1) ∨ ((((s[E]'hEs).toNat : Int) == 100) = false ∧ KD = 2)) := by
                  by_cases e5 : s[E]'hEs = 100
                  · exact ⟨1, ⟨by rw [if_pos e5]⟩, .inl ⟨by rw [e5]; rfl, rfl⟩⟩
                  · exact ⟨2, ⟨by rw [if_neg e5]⟩, .inr ⟨beq_eq_false_iff_ne.2 (fun e => e5 (UInt8.toNat_inj.1 (by show (s[E]'hEs).toNat = 100; omega))), rfl⟩⟩
                obtain ⟨KD, HKD, hcd⟩ := hcd
                have HSC2 : Box ((if N2 < 0 then none else scanF k (l.drop E2) ⟨t.who, t.dn, t.ct, t.ms, t.fs ++ [(N, KD, N2)]⟩) = R) := ⟨by rw [HKD.out]; exact HSC.out⟩
                clear HSC HKD
                have hwrs := HFR.out.size
                rcases hcd with ⟨q5, rfl⟩ | ⟨q5, rfl⟩
                · go_upto_region 30 with fail
                  have HTF : Box (TRow (World.alloc wr (.cells #[.int .i64 N, .int .i64 1, .int .i64 N2] 36)) V2.heap.size TB t a1 n1 c1 a2 n2 c2 a3 n3 c3 a4 n4 c4) := ⟨HTR.out.later (fun k _ hk => Below.heap_alloc _ _ _ hk)⟩
                  have HFF : Box (Fr (fun k => k = TB) V2 (World.alloc wr (.cells #[.int .i64 N, .int .i64 1, .int .i64 N2] 36))) := ⟨HFR.out.alloc _⟩
                  have HXF : Box ((World.alloc wr (.cells #[.int .i64 N, .int .i64 1, .int .i64 N2] 36)).heap[wr.heap.size]? = some (.cells #[.int .i64 N, .int .i64 1, .int .i64 N2] 36 (0, 0))) := ⟨blk_new _ _⟩
                  generalize (World.alloc wr (.cells #[.int .i64 N, .int .i64 1, .int .i64 N2] 36)) = WF at HTF HFF HXF ⊢
                  generalize wr.heap.size = FB at HXF ⊢
                  have y0 : World.cell? WF ⟨FB, 0, none⟩ = some (.int .i64 N) := (cell_blk HXF.out 0).trans rfl
                  have y1 : World.cell? WF ⟨FB, 1, none⟩ = some (.int .i64 1) := (cell_blk HXF.out 1).trans rfl
                  have y2 : World.cell? WF ⟨FB, 2, none⟩ = some (.int .i64 N2) := (cell_blk HXF.out 2).trans rfl
                  have y4 : World.cell? WF ⟨TB, 4, none⟩ = some (.slice a4 n4 c4) := (cell_blk HTF.out.blk 4).trans rfl
                  have HTD : Box (TRow (World.alloc WF (.cells #[.int .i64 N, .int .i64 1, .int .i64 N2] 36)) V2.heap.size TB t a1 n1 c1 a2 n2 c2 a3 n3 c3 a4 n4 c4) := ⟨HTF.out.later (fun k _ hk => Below.heap_alloc _ _ _ hk)⟩
                  have HFD : Box (Fr (fun k => k = TB) V2 (World.alloc WF (.cells #[.int .i64 N, .int .i64 1, .int .i64 N2] 36))) := ⟨HFF.out.alloc _⟩
                  have hbase : V2.heap.size ≤ (World.alloc WF (.cells #[.int .i64 N, .int .i64 1, .int .i64 N2] 36)).heap.size := HFD.out.size
                  go_wp2_with (at_builtin; refine wpList_append_lies _ rfl (.tmp 113) (.tmp 115) 25 rfl V2.heap.size 36 j0 (.agg #[.int .i64 0, .int .i64 0, .int .i64 0]) 3 24 Tryd.underlying25 hj hy0 hyy1 hyy2 rfl (by decide) (.slice a4 n4 c4) n4 (fc3 t.fs) rfl HTD.out.r4 ⟨(World.heap WF).size, 0, none⟩ 1 1 [.int .i64 N, .int .i64 1, .int .i64 N2] rfl rfl (World.news_of_block (cs := #[.int .i64 N, .int .i64 1, .int .i64 N2]) (blk_new _ _)) ?h1q4x1 (by omega) ?b1q4x1 ?b2q4x1 hbase _ rfl ?nxtq4x1)
                  case h1q4x1 => simp [Value.oneCell']
                  case b1q4x1 => unfold maxLen; omega
                  case b2q4x1 => omega
                  case nxtq4x1 =>
                    intro g3 cq w3 ho3 hg3 hgn _
                    have HTN := Box.mk (HTD.out.app4 (x := (N, 1, N2)) hg3 ho3 (hgn.imp id (fun e => by rw [e]; simp)))
                    have hne3 : ∀ k, (Value.slice a4 n4 c4).ownBlock = some k → V2.heap.size ≤ k := fun k hk => (ownsRow_lt HTD.out.r4 hk).1
                    have HFN := Box.mk ((HFD.out.grown hg3 (fun k hk => .inr (hne3 k hk))).setCell (p := ⟨TB, 4, none⟩) (.inl rfl) (.slice (some ⟨g3, 0, none⟩) (n4 + 1) cq))
                    have hbb3 := (hg3.block TB (lt_blk HTD.out.blk) (fun e => by have := hne3 TB e.symm; have := HTD.out.low; omega)).trans HTD.out.blk
                    have q0 : World.cell? w3 ⟨TB, 4, none⟩ = some (.slice a4 n4 c4) := (cell_blk hbb3 4).trans rfl
                    have q1 := free_blk hbb3 4
                    clear ho3 hg3 hgn hne3 hbb3
                    go_upto_region 31 with fail
                    generalize World.setCell w3 ⟨TB, 4, none⟩ (.slice (some ⟨g3, 0, none⟩) (n4 + 1) cq) = V9 at HTN HFN ⊢
                    by_cases hn2 : N2 < 0
                    · have HNO : Box (∀ t, mayT t = true → textU t ≠ l) := ⟨no_law (HRR.out.symm.trans (by have := HSC2.out; rw [if_pos hn2] at this; exact this.symm))⟩
                      clear HSC2
                      have HXR := Box.mk ((HFN.out.blk HX2.out (by omega)))
                      have HBR : Box (Below R0 w V9) := ⟨HB2.out.trans (HFN.out.below (by omega) (fun k _ e => by omega))⟩
                      have r0 : World.cell? V9 ⟨R0, 0, none⟩ = some (.int .i64 0) := (cell_blk HXR.out 0).trans rfl
                      have r1 : World.cell? V9 ⟨R0, 1, none⟩ = some (.slice none 0 0) := (cell_blk HXR.out 1).trans rfl
                      have r2 : World.cell? V9 ⟨R0, 2, none⟩ = some (.slice none 0 0) := (cell_blk HXR.out 2).trans rfl
                      have r3 : World.cell? V9 ⟨R0, 3, none⟩ = some (.slice none 0 0) := (cell_blk HXR.out 3).trans rfl
                      have r4 : World.cell? V9 ⟨R0, 4, none⟩ = some (.slice none 0 0) := (cell_blk HXR.out 4).trans rfl
                      have f0 := free_blk HXR.out 0
                      have f1 := free_blk HXR.out 1
                      have f2 := free_blk HXR.out 2
                      have f3 := free_blk HXR.out 3
                      have f4 := free_blk HXR.out 4
                      go_wp2
                      obtain ⟨qb, hfin, hbw⟩ := res5 HXR.out HBR.out (a := .int .i64 0) (b := .slice none 0 0) (c := .slice none 0 0) (d := .slice none 0 0) (e := .slice none 0 0)
                      have q0 := cell_blk qb 0
                      have q1 := cell_blk qb 1
                      have q2 := cell_blk qb 2
                      have q3 := cell_blk qb 3
                      have q4 := cell_blk qb 4
                      simp only [List.getElem?_toArray, List.getElem?_cons_zero, List.getElem?_cons_succ] at q0 q1 q2 q3 q4
                      have HBW := Box.mk hbw
                      have HFI := Box.mk hfin
                      clear hbw hfin qb r0 r1 r2 r3 r4 f0 f1 f2 f3 f4
                      refine bodyPost_ret (v := .tuple #[.agg #[.int .i64 0, .slice none 0 0, .slice none 0 0, .slice none 0 0, .slice none 0 0], .int .i64 9]) (by simp [results, Tryd.results14, go_sem, q0, q1, q2, q3, q4]) rfl ⟨HBW.out, .inr ⟨HNO.out, rfl⟩⟩
                    · have HSK : Box (scanF k (l.drop E2) ⟨t.who, t.dn, t.ct, t.ms, t.fs ++ [(N, 1, N2)]⟩ = R) := ⟨by have := HSC2.out; rwa [if_neg hn2] at this⟩
                      have hFd := hFc (by omega)
                      have hn3 : ¬ N2 < 0 := hn2
                      clear HSC2
                      go_wp2
                      go_roundw
                      case rel => exact ⟨E2, k, _, a1, n1, c1, a2, n2, c2, a3, n3, c3, some ⟨g3, 0, none⟩, n4 + 1, cq, by omega, by first | rfl | go_num, by omega, by omega, HTN, HSK, HFN⟩
                      case measure => simp [intOf] <;> omega
                · go_upto_region 30 with fail
                  have HTF : Box (TRow (World.alloc wr (.cells #[.int .i64 N, .int .i64 2, .int .i64 N2] 36)) V2.heap.size TB t a1 n1 c1 a2 n2 c2 a3 n3 c3 a4 n4 c4) := ⟨HTR.out.later (fun k _ hk => Below.heap_alloc _ _ _ hk)⟩
                  have HFF : Box (Fr (fun k => k = TB) V2 (World.alloc wr (.cells #[.int .i64 N, .int .i64 2, .int .i64 N2] 36))) := ⟨HFR.out.alloc _⟩
                  have HXF : Box ((World.alloc wr (.cells #[.int .i64 N, .int .i64 2, .int .i64 N2] 36)).heap[wr.heap.size]? = some (.cells #[.int .i64 N, .int .i64 2, .int .i64 N2] 36 (0, 0))) := ⟨blk_new _ _⟩
                  generalize (World.alloc wr (.cells #[.int .i64 N, .int .i64 2, .int .i64 N2] 36)) = WF at HTF HFF HXF ⊢
                  generalize wr.heap.size = FB at HXF ⊢
                  have y0 : World.cell? WF ⟨FB, 0, none⟩ = some (.int .i64 N) := (cell_blk HXF.out 0).trans rfl
                  have y1 : World.cell? WF ⟨FB, 1, none⟩ = some (.int .i64 2) := (cell_blk HXF.out 1).trans rfl
                  have y2 : World.cell? WF ⟨FB, 2, none⟩ = some (.int .i64 N2) := (cell_blk HXF.out 2).trans rfl
                  have y4 : World.cell? WF ⟨TB, 4, none⟩ = some (.slice a4 n4 c4) := (cell_blk HTF.out.blk 4).trans rfl
                  have HTD : Box (TRow (World.alloc WF (.cells #[.int .i64 N, .int .i64 2, .int .i64 N2] 36)) V2.heap.size TB t a1 n1 c1 a2 n2 c2 a3 n3 c3 a4 n4 c4) := ⟨HTF.out.later (fun k _ hk => Below.heap_alloc _ _ _ hk)⟩
                  have HFD : Box (Fr (fun k => k = TB) V2 (World.alloc WF (.cells #[.int .i64 N, .int .i64 2, .int .i64 N2] 36))) := ⟨HFF.out.alloc _⟩
                  have hbase : V2.heap.size ≤ (World.alloc WF (.cells #[.int .i64 N, .int .i64 2, .int .i64 N2] 36)).heap.size := HFD.out.size
                  go_wp2_with (at_builtin; refine wpList_append_lies _ rfl (.tmp 113) (.tmp 115) 25 rfl V2.heap.size 36 j0 (.agg #[.int .i64 0, .int .i64 0, .int .i64 0]) 3 24 Tryd.underlying25 hj hy0 hyy1 hyy2 rfl (by decide) (.slice a4 n4 c4) n4 (fc3 t.fs) rfl HTD.out.r4 ⟨(World.heap WF).size, 0, none⟩ 1 1 [.int .i64 N, .int .i64 2, .int .i64 N2] rfl rfl (World.news_of_block (cs := #[.int .i64 N, .int .i64 2, .int .i64 N2]) (blk_new _ _)) ?h1q4x2 (by omega) ?b1q4x2 ?b2q4x2 hbase _ rfl ?nxtq4x2)
                  case h1q4x2 => simp [Value.oneCell']
                  case b1q4x2 => unfold maxLen; omega
                  case b2q4x2 => omega
                  case nxtq4x2 =>
                    intro g3 cq w3 ho3 hg3 hgn _
                    have HTN := Box.mk (HTD.out.app4 (x := (N, 2, N2)) hg3 ho3 (hgn.imp id (fun e => by rw [e]; simp)))
                    have hne3 : ∀ k, (Value.slice a4 n4 c4).ownBlock = some k → V2.heap.size ≤ k := fun k hk => (ownsRow_lt HTD.out.r4 hk).1
                    have HFN := Box.mk ((HFD.out.grown hg3 (fun k hk => .inr (hne3 k hk))).setCell (p := ⟨TB, 4, none⟩) (.inl rfl) (.slice (some ⟨g3, 0, none⟩) (n4 + 1) cq))
                    have hbb3 := (hg3.block TB (lt_blk HTD.out.blk) (fun e => by have := hne3 TB e.symm; have := HTD.out.low; omega)).trans HTD.out.blk
                    have q0 : World.cell? w3 ⟨TB, 4, none⟩ = some (.slice a4 n4 c4) := (cell_blk hbb3 4).trans rfl
                    have q1 := free_blk hbb3 4
                    clear ho3 hg3 hgn hne3 hbb3
                    go_upto_region 31 with fail
                    generalize World.setCell w3 ⟨TB, 4, none⟩ (.slice (some ⟨g3, 0, none⟩) (n4 + 1) cq) = V9 at HTN HFN ⊢
                    by_cases hn2 : N2 < 0
                    · have HNO : Box (∀ t, mayT t = true → textU t ≠ l) := ⟨no_law (HRR.out.symm.trans (by have := HSC2.out; rw [if_pos hn2] at this; exact this.symm))⟩
                      clear HSC2
                      have HXR := Box.mk ((HFN.out.blk HX2.out (by omega)))
                      have HBR : Box (Below R0 w V9) := ⟨HB2.out.trans (HFN.out.below (by omega) (fun k _ e => by omega))⟩
                      have r0 : World.cell? V9 ⟨R0, 0, none⟩ = some (.int .i64 0) := (cell_blk HXR.out 0).trans rfl
                      have r1 : World.cell? V9 ⟨R0, 1, none⟩ = some (.slice none 0 0) := (cell_blk HXR.out 1).trans rfl
                      have r2 : World.cell? V9 ⟨R0, 2, none⟩ = some (.slice none 0 0) := (cell_blk HXR.out 2).trans rfl
                      have r3 : World.cell? V9 ⟨R0, 3, none⟩ = some (.slice none 0 0) := (cell_blk HXR.out 3).trans rfl
                      have r4 : World.cell? V9 ⟨R0, 4, none⟩ = some (.slice none 0 0) := (cell_blk HXR.out 4).trans rfl
                      have f0 := free_blk HXR.out 0
                      have f1 := free_blk HXR.out 1
                      have f2 := free_blk HXR.out 2
                      have f3 := free_blk HXR.out 3
                      have f4 := free_blk HXR.out 4
                      go_wp2
                      obtain ⟨qb, hfin, hbw⟩ := res5 HXR.out HBR.out (a := .int .i64 0) (b := .slice none 0 0) (c := .slice none 0 0) (d := .slice none 0 0) (e := .slice none 0 0)
                      have q0 := cell_blk qb 0
                      have q1 := cell_blk qb 1
                      have q2 := cell_blk qb 2
                      have q3 := cell_blk qb 3
                      have q4 := cell_blk qb 4
                      simp only [List.getElem?_toArray, List.getElem?_cons_zero, List.getElem?_cons_succ] at q0 q1 q2 q3 q4
                      have HBW := Box.mk hbw
                      have HFI := Box.mk hfin
                      clear hbw hfin qb r0 r1 r2 r3 r4 f0 f1 f2 f3 f4
                      refine bodyPost_ret (v := .tuple #[.agg #[.int .i64 0, .slice none 0 0, .slice none 0 0, .slice none 0 0, .slice none 0 0], .int .i64 9]) (by simp [results, Tryd.results14, go_sem, q0, q1, q2, q3, q4]) rfl ⟨HBW.out, .inr ⟨HNO.out, rfl⟩⟩
                    · have HSK : Box (scanF k (l.drop E2) ⟨t.who, t.dn, t.ct, t.ms, t.fs ++ [(N, 2, N2)]⟩ = R) := ⟨by have := HSC2.out; rwa [if_neg hn2] at this⟩
                      have hFd := hFc (by omega)
                      have hn3 : ¬ N2 < 0 := hn2
                      clear HSC2
                      go_wp2
                      go_roundw
                      case rel => exact ⟨E2, k, _, a1, n1, c1, a2, n2, c2, a3, n3, c3, some ⟨g3, 0, none⟩, n4 + 1, cq, by omega, by first | rfl | go_num, by omega, by omega, HTN, HSK, HFN⟩
                      case measure => simp [intOf] <;> omega
            have e4' : ((c.toNat : Int) == 61) = false := beq_eq_false_iff_ne.2 (fun e => e4 (UInt8.toNat_inj.1 (by show c.toNat = 61; omega)))
            have HNO : Box (∀ t, mayT t = true → textU t ≠ l) := ⟨no_law (HRR.out.symm.trans (by have := HSC.out; rw [if_neg e1, if_neg e2, if_neg e3, if_neg e4] at this; exact this.symm))⟩
            clear HSC e1 e2 e3 e4
            have HXR := Box.mk ((HFR.out.blk HX2.out (by omega)))
            have HBR : Box (Below R0 w wr) := ⟨HB2.out.trans (HFR.out.below (by omega) (fun k _ e => by omega))⟩
            have r0 : World.cell? wr ⟨R0, 0, none⟩ = some (.int .i64 0) := (cell_blk HXR.out 0).trans rfl
            have r1 : World.cell? wr ⟨R0, 1, none⟩ = some (.slice none 0 0) := (cell_blk HXR.out 1).trans rfl
            have r2 : World.cell? wr ⟨R0, 2, none⟩ = some (.slice none 0 0) := (cell_blk HXR.out 2).trans rfl
            have r3 : World.cell? wr ⟨R0, 3, none⟩ = some (.slice none 0 0) := (cell_blk HXR.out 3).trans rfl
            have r4 : World.cell? wr ⟨R0, 4, none⟩ = some (.slice none 0 0) := (cell_blk HXR.out 4).trans rfl
            have f0 := free_blk HXR.out 0
            have f1 := free_blk HXR.out 1
            have f2 := free_blk HXR.out 2
            have f3 := free_blk HXR.out 3
            have f4 := free_blk HXR.out 4
            go_wp2
            obtain ⟨qb, hfin, hbw⟩ := res5 HXR.out HBR.out (a := .int .i64 0) (b := .slice none 0 0) (c := .slice none 0 0) (d := .slice none 0 0) (e := .slice none 0 0)
            have q0 := cell_blk qb 0
            have q1 := cell_blk qb 1
            have q2 := cell_blk qb 2
            have q3 := cell_blk qb 3
            have q4 := cell_blk qb 4
            simp only [List.getElem?_toArray, List.getElem?_cons_zero, List.getElem?_cons_succ] at q0 q1 q2 q3 q4
            have HBW := Box.mk hbw
            have HFI := Box.mk hfin
            clear hbw hfin qb r0 r1 r2 r3 r4 f0 f1 f2 f3 f4
            refine bodyPost_ret (v := .tuple #[.agg #[.int .i64 0, .slice none 0 0, .slice none 0 0, .slice none 0 0, .slice none 0 0], .int .i64 9]) (by simp [results, Tryd.results14, go_sem, q0, q1, q2, q3, q4]) rfl ⟨HBW.out, .inr ⟨HNO.out, rfl⟩⟩
        · obtain rfl : i = l.length := by omega
          have hR : R = some t := by
            obtain ⟨k, rfl⟩ : ∃ k', k = k' + 1 := ⟨k - 1, by omega⟩
            have := HSC.out
            rw [List.drop_length, scanF] at this
            exact this.symm
          have hii : ¬ (l.length : Int) < s.size := by have := HSZ.out; omega
          have HLW := Box.mk (some_law (HRR.out.symm.trans hR))
          have HTX := Box.mk (rttext_any t a1 n1 c1 a2 n2 c2 a3 n3 c3 a4 n4 c4 wr (HTR.out.tk (by omega) (by omega) (by omega) (by omega)) (by omega) (by omega) (by omega) (by omega))
          have hss : s.toList = l := by rw [Lib.toList_data]; exact HSL.out.symm
          have HBR : Box (Below R0 w wr) := ⟨HB2.out.trans (HFR.out.below (by omega) (fun k _ e => by omega))⟩
          have HXR := Box.mk (HFR.out.blk HX2.out (by omega))
          have hblk := HTR.out.blk
          have z0 : World.cell? wr ⟨TB, 0, none⟩ = some (.int .i64 t.who) := (cell_blk hblk 0).trans rfl
          have z1 : World.cell? wr ⟨TB, 1, none⟩ = some (.slice a1 n1 c1) := (cell_blk hblk 1).trans rfl
          have z2 : World.cell? wr ⟨TB, 2, none⟩ = some (.slice a2 n2 c2) := (cell_blk hblk 2).trans rfl
          have z3 : World.cell? wr ⟨TB, 3, none⟩ = some (.slice a3 n3 c3) := (cell_blk hblk 3).trans rfl
          have z4 : World.cell? wr ⟨TB, 4, none⟩ = some (.slice a4 n4 c4) := (cell_blk hblk 4).trans rfl
          have zf := free_blk hblk 0
          clear hblk
          have hRw : R0 < wr.heap.size := lt_blk HXR.out
          clear HSC hR
          by_cases hte : textT t = l
          · have hq : (textT t != s.toList) = false := by rw [hss]; simp [hte]
            have hq2 : (textT t == s.toList) = true := by rw [hss]; simp [hte]
            have hmay : mayT t = true := by
              cases hm : mayT t with
              | true => rfl
              | false =>
                unfold textT at hte
                rw [hm] at hte
                have : l.length = 0 := by rw [← hte]; rfl
                omega
            have HMT : Box (mayT t = true ∧ textU t = l) := ⟨hmay, by unfold textT at hte; rw [if_pos hmay] at hte; exact hte⟩
            clear hte hmay HLW hss
            go_upto_region 37 with (go_at_call 9; (with_reducible refine HTX.out.mono ?_); rintro e w10 ⟨rfl, hb⟩; have HB10 := Box.mk hb; clear hb)
            have HTZ := Box.mk (HTR.out.later (fun k _ hk => HB10.out.block k hk))
            have HXZ := Box.mk ((HB10.out.block R0 hRw).trans HXR.out)
            have HBZ : Box (Below R0 w w10) := ⟨HBR.out.trans (HB10.out.mono (by omega))⟩
            have hblk := HTZ.out.blk
            have v0 : World.cell? w10 ⟨TB, 0, none⟩ = some (.int .i64 t.who) := (cell_blk hblk 0).trans rfl
            have v1 : World.cell? w10 ⟨TB, 1, none⟩ = some (.slice a1 n1 c1) := (cell_blk hblk 1).trans rfl
            have v2 : World.cell? w10 ⟨TB, 2, none⟩ = some (.slice a2 n2 c2) := (cell_blk hblk 2).trans rfl
            have v3 : World.cell? w10 ⟨TB, 3, none⟩ = some (.slice a3 n3 c3) := (cell_blk hblk 3).trans rfl
            have v4 : World.cell? w10 ⟨TB, 4, none⟩ = some (.slice a4 n4 c4) := (cell_blk hblk 4).trans rfl
            clear hblk
            have r0 : World.cell? w10 ⟨R0, 0, none⟩ = some (.int .i64 0) := (cell_blk HXZ.out 0).trans rfl
            have r1 : World.cell? w10 ⟨R0, 1, none⟩ = some (.slice none 0 0) := (cell_blk HXZ.out 1).trans rfl
            have r2 : World.cell? w10 ⟨R0, 2, none⟩ = some (.slice none 0 0) := (cell_blk HXZ.out 2).trans rfl
            have r3 : World.cell? w10 ⟨R0, 3, none⟩ = some (.slice none 0 0) := (cell_blk HXZ.out 3).trans rfl
            have r4 : World.cell? w10 ⟨R0, 4, none⟩ = some (.slice none 0 0) := (cell_blk HXZ.out 4).trans rfl
            have f0 := free_blk HXZ.out 0
            have f1 := free_blk HXZ.out 1
            have f2 := free_blk HXZ.out 2
            have f3 := free_blk HXZ.out 3
            have f4 := free_blk HXZ.out 4
            go_wp2
            obtain ⟨qb, hfin, hbw⟩ := res5 HXZ.out HBZ.out (a := .int .i64 t.who) (b := .slice a1 n1 c1) (c := .slice a2 n2 c2) (d := .slice a3 n3 c3) (e := .slice a4 n4 c4)
            have q0 := cell_blk qb 0
            have q1 := cell_blk qb 1
            have q2 := cell_blk qb 2
            have q3 := cell_blk qb 3
            have q4 := cell_blk qb 4
            simp only [List.getElem?_toArray, List.getElem?_cons_zero, List.getElem?_cons_succ] at q0 q1 q2 q3 q4
            have HBW := Box.mk hbw
            have HFI := Box.mk hfin
            clear hbw hfin qb r0 r1 r2 r3 r4 f0 f1 f2 f3 f4
            refine bodyPost_ret (v := .tuple #[.agg #[.int .i64 t.who, .slice a1 n1 c1, .slice a2 n2 c2, .slice a3 n3 c3, .slice a4 n4 c4], .int .i64 0]) (by simp [results, Tryd.results14, go_sem, q0, q1, q2, q3, q4]) rfl ⟨HBW.out, .inl ⟨t, a1, n1, c1, a2, n2, c2, a3, n3, c3, a4, n4, c4, HMT.out.1, HMT.out.2, rfl, (HTZ.out.later (fun k hk1 hk => HFI.out.block k hk (fun e => by omega))).tk (by omega) (by omega) (by omega) (by omega)⟩⟩
          · have hq : (textT t != s.toList) = true := by rw [hss]; simp [hte]
            have hq2 : (textT t == s.toList) = false := by rw [hss]; simp [hte]
            have HNO : Box (∀ t, mayT t = true → textU t ≠ l) := ⟨fun t' h1 h2 => by
              have := HLW.out t' h1 h2
              subst this
              exact hte (by unfold textT; rw [if_pos h1]; exact h2)⟩
            clear hte HLW hss
            go_upto_region 36 with (go_at_call 9; (with_reducible refine HTX.out.mono ?_); rintro e w10 ⟨rfl, hb⟩; have HB10 := Box.mk hb; clear hb)
            have HXZ := Box.mk ((HB10.out.block R0 hRw).trans HXR.out)
            have HBZ : Box (Below R0 w w10) := ⟨HBR.out.trans (HB10.out.mono (by omega))⟩
            have r0 : World.cell? w10 ⟨R0, 0, none⟩ = some (.int .i64 0) := (cell_blk HXZ.out 0).trans rfl
            have r1 : World.cell? w10 ⟨R0, 1, none⟩ = some (.slice none 0 0) := (cell_blk HXZ.out 1).trans rfl
            have r2 : World.cell? w10 ⟨R0, 2, none⟩ = some (.slice none 0 0) := (cell_blk HXZ.out 2).trans rfl
            have r3 : World.cell? w10 ⟨R0, 3, none⟩ = some (.slice none 0 0) := (cell_blk HXZ.out 3).trans rfl
            have r4 : World.cell? w10 ⟨R0, 4, none⟩ = some (.slice none 0 0) := (cell_blk HXZ.out 4).trans rfl
            have f0 := free_blk HXZ.out 0
            have f1 := free_blk HXZ.out 1
            have f2 := free_blk HXZ.out 2
            have f3 := free_blk HXZ.out 3
            have f4 := free_blk HXZ.out 4
            go_wp2
            obtain ⟨qb, hfin, hbw⟩ := res5 HXZ.out HBZ.out (a := .int .i64 0) (b := .slice none 0 0) (c := .slice none 0 0) (d := .slice none 0 0) (e := .slice none 0 0)
            have q0 := cell_blk qb 0
            have q1 := cell_blk qb 1
            have q2 := cell_blk qb 2
            have q3 := cell_blk qb 3
            have q4 := cell_blk qb 4
            simp only [List.getElem?_toArray, List.getElem?_cons_zero, List.getElem?_cons_succ] at q0 q1 q2 q3 q4
            have HBW := Box.mk hbw
            have HFI := Box.mk hfin
            clear hbw hfin qb r0 r1 r2 r3 r4 f0 f1 f2 f3 f4
            refine bodyPost_ret (v := .tuple #[.agg #[.int .i64 0, .slice none 0 0, .slice none 0 0, .slice none 0 0, .slice none 0 0], .int .i64 9]) (by simp [results, Tryd.results14, go_sem, q0, q1, q2, q3, q4]) rfl ⟨HBW.out, .inr ⟨HNO.out, rfl⟩⟩
end Go.Proofs.YtimeodjfihpgeaaDoor
