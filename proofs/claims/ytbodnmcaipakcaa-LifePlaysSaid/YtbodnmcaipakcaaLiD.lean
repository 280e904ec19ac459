/-
  A book: Answer, Cancel, Open, New.
-/
import Derived.Test.YtbodnmcaipakcaaLiC
namespace Go.Proofs.Ytbodnmcaipakcaa
open Go.RowKit Go.ChangeMaps Go.MapKept

/-- What out leaves, and tells. -/
def BM.out (M : BM) (f : FateM) : BM := match M.op f.id with | some e => M.outM f.id e f | none => M
def BM.outC (M : BM) (id : Int) : Int := if (M.op id).isSome then 0 else 6
theorem bout_any (p : Nat) (M : BM) (F : Nat → Prop) (w : World) (h : BAt w p M F) (id kind why : Int) (hk : kwf id) (hlen : M.fs.length ≤ 1000000) :
    Calls Try.prog 27 #[.pointer (some ⟨p, 0, none⟩), .int .i64 id, .int .i64 kind, .int .i64 why] w fun x w' => x = .returned (.int .i64 (M.outC id)) ∧ BPost w p (M.out ⟨id, kind, why⟩) F w' := by
  unfold BM.outC BM.out
  cases ho : M.op id with
  | none => exact (bout_none p M F w h id kind why hk ho).mono fun e w' hx => ⟨hx.1, F, h.fr (Fr.of_below (F := fun _ => False) hx.2) (fun _ _ h => h), Fr.of_below hx.2, Gro.refl _ _⟩
  | some e => exact bout_some p M F w h id kind why hk e ho hlen
/-- Answer. -/
def BM.ans (M : BM) (id st : Int) (bad : Bool) : BM := if st < 0 ∨ 255 < st then M else if bad then M.out ⟨id, 2, 2⟩ else M.out ⟨id, 1, st⟩
def BM.ansC (M : BM) (id st : Int) : Int := if st < 0 ∨ 255 < st then 1 else M.outC id
theorem BPost.same {w : World} {p : Nat} {M : BM} {F : Nat → Prop} (h : BAt w p M F) : BPost w p M F w := ⟨F, h, Fr.refl _ _, Gro.refl _ _⟩
set_option maxHeartbeats 2000000 in
theorem banswer_any (p : Nat) (M : BM) (F : Nat → Prop) (w : World) (h : BAt w p M F) (id st : Int) (bad : Bool) (hk : kwf id) (hlen : M.fs.length ≤ 1000000) :
    Calls Try.prog 12 #[.pointer (some ⟨p, 0, none⟩), .int .i64 id, .int .i64 st, .bool bad] w fun x w' => x = .returned (.int .i64 (M.ansC id st)) ∧ BPost w p (M.ans id st bad) F w' := by
  have HO := Box.mk (fun kind why => bout_any p M F w h id kind why hk hlen)
  have HS := Box.mk (BPost.same h)
  have HD : Box ((M.ansC id st = if st < 0 ∨ 255 < st then 1 else M.outC id) ∧ M.ans id st bad = if st < 0 ∨ 255 < st then M else if bad then M.out ⟨id, 2, 2⟩ else M.out ⟨id, 1, st⟩) := ⟨rfl, rfl⟩
  clear h
  by_cases h1 : st < 0
  · have HE : Box (M.ansC id st = 1 ∧ M.ans id st bad = M) := ⟨by rw [HD.out.1, HD.out.2, if_pos (.inl h1), if_pos (.inl h1)]; exact ⟨rfl, rfl⟩⟩
    rw [HE.out.1, HE.out.2]
    go_enter Try.func12, Try.ntmps12
    go_wp2
    go_ret
    exact ⟨rfl, HS.out⟩
  · by_cases h2 : 255 < st
    · have HE : Box (M.ansC id st = 1 ∧ M.ans id st bad = M) := ⟨by rw [HD.out.1, HD.out.2, if_pos (.inr h2), if_pos (.inr h2)]; exact ⟨rfl, rfl⟩⟩
      rw [HE.out.1, HE.out.2]
      go_enter Try.func12, Try.ntmps12
      go_wp2
      go_ret
      exact ⟨rfl, HS.out⟩
    · cases bad with
      | true =>
        have HE : Box (M.ansC id st = M.outC id ∧ M.ans id st true = M.out ⟨id, 2, 2⟩) := ⟨by rw [HD.out.1, HD.out.2, if_neg (by omega), if_neg (by omega)]; exact ⟨rfl, rfl⟩⟩
        rw [HE.out.1, HE.out.2]
        have HP := Box.mk (HO.out 2 2)
        go_enter Try.func12, Try.ntmps12
        go_wp2_with (go_at_call 27; (with_reducible refine HP.out.mono ?_); rintro e w1 ⟨rfl, hp⟩)
        go_ret
        exact ⟨rfl, hp⟩
      | false =>
        have HE : Box (M.ansC id st = M.outC id ∧ M.ans id st false = M.out ⟨id, 1, st⟩) := ⟨by rw [HD.out.1, HD.out.2, if_neg (by omega), if_neg (by omega)]; exact ⟨rfl, rfl⟩⟩
        rw [HE.out.1, HE.out.2]
        have HP := Box.mk (HO.out 1 st)
        go_enter Try.func12, Try.ntmps12
        go_wp2_with (go_at_call 27; (with_reducible refine HP.out.mono ?_); rintro e w1 ⟨rfl, hp⟩)
        go_ret
        exact ⟨rfl, hp⟩
theorem bcancel_any (p : Nat) (M : BM) (F : Nat → Prop) (w : World) (h : BAt w p M F) (id : Int) (hk : kwf id) (hlen : M.fs.length ≤ 1000000) :
    Calls Try.prog 14 #[.pointer (some ⟨p, 0, none⟩), .int .i64 id] w fun x w' => x = .returned (.int .i64 (M.outC id)) ∧ BPost w p (M.out ⟨id, 2, 3⟩) F w' := by
  have HP := Box.mk (bout_any p M F w h id 2 3 hk hlen)
  clear h
  go_enter Try.func14, Try.ntmps14
  go_wp2_with (go_at_call 27; (with_reducible refine HP.out.mono ?_); rintro e w1 ⟨rfl, hp⟩)
  go_ret
  exact ⟨rfl, hp⟩
/-- A new book. -/
def newB (cost : Nat) : BM := ⟨cost, 0, fun _ => none, fun _ => 0, fun _ => false, []⟩
theorem newB_inv {cost : Nat} (h : 1 ≤ cost ∧ cost ≤ 1000) : BInv (newB cost) := ⟨h, fun t ht => (by cases ht), fun id e he => (by cases he)⟩
theorem newB_cells (cost pw ab : Nat) : ((Try.zeroCells66.setIfInBounds 0 (Value.int .u64 cost)).setIfInBounds 1 (Value.pointer (some ⟨pw, 0, none⟩))).setIfInBounds 2 (Value.map (some ab)) = bcells cost pw ab (fun _ => 0) (fun _ => false) (.slice none 0 0) := by kernel_rfl
set_option maxHeartbeats 4000000 in
set_option maxRecDepth 100000 in
theorem bnew_bad (cost : Nat) (w : World) (hc : cost < 1 ∨ 1000 < cost) :
    Calls Try.prog 10 #[.int .u64 cost] w fun x w' => x = .returned (.tuple #[.pointer none, .int .i64 1]) ∧ w = w' := by
  by_cases h1 : cost < 1
  · have h1i : (cost : Int) < 1 := by omega
    go_enter Try.func10, Try.ntmps10
    go_wp2
    go_ret2
    exact ⟨rfl, rfl⟩
  · have h1i : ¬ (cost : Int) < 1 := by omega
    have h2i : (1000 : Int) < (cost : Int) := by omega
    go_enter Try.func10, Try.ntmps10
    go_wp2
    go_ret2
    exact ⟨rfl, rfl⟩
set_option maxHeartbeats 4000000 in
set_option maxRecDepth 100000 in
theorem bnew_any (cost : Nat) (w : World) (hc : 1 ≤ cost ∧ cost ≤ 1000) :
    Calls Try.prog 10 #[.int .u64 cost] w fun x w' => ∃ p F, x = .returned (.tuple #[.pointer (some ⟨p, 0, none⟩), .int .i64 0]) ∧ BAt w' p (newB cost) F ∧ (∀ k, F k → w.heap.size ≤ k) ∧ Below w.heap.size w w' := by
  have HNW := Box.mk (wt_new w)
  have h1i : ¬ (cost : Int) < 1 := by omega
  have h2i : ¬ (1000 : Int) < (cost : Int) := by omega
  have hmm := @run_makeMap Try.prog
  go_enter Try.func10, Try.ntmps10
  go_upto_region 3 with fail
  go_wp2_with (go_at_call 22; (with_reducible refine HNW.out.mono ?_); rintro e w2 ⟨pw, Fw, rfl, h1, hF, h2⟩; have HN := Box.mk (And.intro h1 (And.intro hF h2)); clear h1 h2 hF)
  go_ret2
  obtain ⟨h1, hF, h2⟩ := HN.out
  rw [newB_cells]
  have hf : Fr (fun _ => False) w2 ((w2.alloc (.map #[] 0)).alloc (.cells (bcells cost pw w2.heap.size (fun _ => 0) (fun _ => false) (.slice none 0 0)) 66)) := ((Fr.refl _ w2).alloc _).alloc _
  have hblk : ((w2.alloc (.map #[] 0)).alloc (.cells (bcells cost pw w2.heap.size (fun _ => 0) (fun _ => false) (.slice none 0 0)) 66)).heap[w2.heap.size + 1]? = some (.cells (bcells cost pw w2.heap.size (fun _ => 0) (fun _ => false) (.slice none 0 0)) 66 (0, 0)) := by
    have := blk_new (w2.alloc (.map #[] 0)) (.cells (bcells cost pw w2.heap.size (fun _ => 0) (fun _ => false) (.slice none 0 0)) 66)
    rwa [show (w2.alloc (.map #[] 0)).heap.size = w2.heap.size + 1 from by simp] at this
  have hm : MapAt Try.prog 3 entE ((w2.alloc (.map #[] 0)).alloc (.cells (bcells cost pw w2.heap.size (fun _ => 0) (fun _ => false) (.slice none 0 0)) 66)) w2.heap.size 64 (newB cost).op := ((MapAt.made w2 Try.prog 3 entE).fr (F := fun _ => False) ((Fr.refl _ _).alloc _) (fun h => h)).mono (Nat.zero_le _)
  have hg : (newB cost).g = fun _ => none := by funext t; rfl
  have hs2 := h2.size
  refine ⟨w2.heap.size + 1, _, rfl, ⟨pw, w2.heap.size, Fw, .slice none 0 0, ⟨hblk, ?_, hm, World.ownsRow_nil _ _ _ _, by omega, fun hF' => by have := h1.lt hF'; omega, fun hF' => by have := h1.lt hF'; omega, fun k hk => by simp [Value.ownBlock] at hk⟩, newB_inv hc, rfl⟩, fun k hk => ?_, ?_⟩
  · rw [hg]
    exact h1.fr hf (fun _ _ h => h)
  · rcases hk with rfl | rfl | hk | hk
    · omega
    · omega
    · exact hF k hk
    · simp [Value.ownBlock] at hk
  · exact (h2.alloc hs2 _).alloc (by simp; omega) _

end Go.Proofs.Ytbodnmcaipakcaa
