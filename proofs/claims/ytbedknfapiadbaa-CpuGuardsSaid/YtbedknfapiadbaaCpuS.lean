/-
  The walk of law17's awake.
-/
import Derived.Test.YtbedknfapiadbaaCpuR
namespace Go.Proofs.Ytbedknfapiadbaa
open Go.RowKit

abbrev wT : Obj := .cells #[.int .i64 5, .int .u64 1, .int .u64 20, .int .u64 10] 53
abbrev wL : Obj := .cells #[.int .i64 2, .int .u64 10] 41
abbrev ranO (who : Int) (a1 : Option Addr) (nd c1 : Nat) (a2 : Option Addr) (nc c2 : Nat) (a3 : Option Addr) (n3 c3 : Nat) : Obj := .cells #[.int .i64 who, .slice a1 nd c1, .slice a2 nc c2, .slice a3 n3 c3] 36

set_option maxHeartbeats 8000000 in
set_option maxRecDepth 100000 in
theorem awake17_any (w : World) :
    Calls Try.prog 9 #[] w fun e w' => e = .returned (.bool true) ∧ Below w.heap.size w w' := by
  have hT : TasksAt ((w.alloc wT).alloc wL) (some ⟨w.heap.size, 0, none⟩) [⟨5, 1, 20, 10⟩] := TasksAt.one (blk_alloc (blk_new w wT))
  have hb := blk_new (w.alloc wT) wL
  rw [show (w.alloc wT).heap.size = w.heap.size + 1 from by simp] at hb
  have hL : LoadsAt ((w.alloc wT).alloc wL) (some ⟨w.heap.size + 1, 0, none⟩) [⟨2, 10⟩] := LoadsAt.one hb
  have HNW := Box.mk (cpuNew_any (some ⟨w.heap.size, 0, none⟩) 1 1 [⟨5, 1, 20, 10⟩] rfl (some ⟨w.heap.size + 1, 0, none⟩) 1 1 [⟨2, 10⟩] rfl _ hT hL rfl rfl)
  have HB := Box.mk (((Below.refl w.heap.size w).alloc (Nat.le_refl _) wT).alloc (by simp) wL)
  clear hT hb hL
  go_enter Try.func9, Try.ntmps9
  go_upto_region 4 with (go_at_call 11; refine HNW.out.mono ?_; rintro e w1 ⟨c, y, rfl, hns⟩; have HS := Box.mk (CSt.of_new hns HB.out); clear hns)
  have hs0 : CSt w w1 c aM0 [] := HS.out
  have HS := Box.mk hs0
  clear hs0 HNW
  have HR := Box.mk (crelease_st w w1 c aM0 [] HS.out 0 9 (fun t ht => by simp [aM0, newM, newTask] at ht; subst ht; decide) (by decide) (fun p => by simp [aM0, newM]))
  rw [a_relC, a_rel] at HR
  go_upto_region 5 with (go_at_call 19; refine HR.out.mono ?_; rintro e w2 ⟨rfl, hs⟩; have HS := Box.mk hs; clear hs)
  clear HR
  have HR := Box.mk (cwake_st w w2 c aM1 [] HS.out 0 5 (fun s hs => by simp [aM1] at hs; subst hs; decide) (by decide))
  rw [a_wake, a_wakeC] at HR
  go_upto_region 6 with (go_at_call 12; refine HR.out.mono ?_; rintro e w3 ⟨rfl, hs⟩; have HS := Box.mk hs; clear hs)
  clear HR
  have HR := Box.mk (ctick_st w w3 c aM2 [] HS.out a_ok2)
  go_upto_region 7 with (go_at_call 14; refine HR.out.mono ?_; rintro e w4 ⟨M1, who, nd, nc, a1, c1, a2, c2, a3, c3, hran, rfl, hs⟩; obtain ⟨h1, h2, h3, h4⟩ := hran.serve (by rw [a_s2]); rw [a_s2] at h2; subst h2; rw [a_3] at hs; obtain rfl : who = 100 := (by simpa using h1); subst h3; subst h4; have HS := Box.mk hs; obtain ⟨n3, hn3⟩ : ∃ n3, (lateIds (aM2.now + 1) aM2.tasks aM2.tasks.length).length = n3 := ⟨_, rfl⟩; have hn3' : (lateIds (aM2.now + 1) ({ aM2 with servers := [⟨⟨⟨2, 10⟩, [10], 0⟩, 4⟩] } : CpuM).tasks ({ aM2 with servers := [⟨⟨⟨2, 10⟩, [10], 0⟩, 4⟩] } : CpuM).tasks.length).length = n3 := hn3; rw [hn3']; clear hran hs h1 hn3 hn3')
  clear HR
  have hs4 := HS.out.alloc (ranO 100 a1 0 c1 a2 0 c2 a3 n3 c3)
  generalize hV4 : w4.alloc (ranO 100 a1 0 c1 a2 0 c2 a3 n3 c3) = V4 at hs4 ⊢
  clear hV4
  generalize w4.heap.size = B4 at hs4 ⊢
  have HS := Box.mk hs4
  clear hs4
  have HR := Box.mk (ctick_st w V4 c aM3 _ HS.out a_ok3)
  go_upto_region 8 with (go_at_call 14; refine HR.out.mono ?_; rintro e w5 ⟨M1, who, nd, nc, b1, k1, b2, k2, b3, k3, hran, rfl, hs⟩; obtain ⟨h1, h2, h3, h4⟩ := hran.serve (by rw [a_s3]); rw [a_s3] at h2; subst h2; rw [a_4] at hs; obtain rfl : who = 100 := (by simpa using h1); subst h3; subst h4; have HS := Box.mk hs; obtain ⟨n4, hn4⟩ : ∃ n4, (lateIds (aM3.now + 1) aM3.tasks aM3.tasks.length).length = n4 := ⟨_, rfl⟩; have hn4' : (lateIds (aM3.now + 1) ({ aM3 with servers := [⟨⟨⟨2, 10⟩, [10, 11], 1⟩, 3⟩] } : CpuM).tasks ({ aM3 with servers := [⟨⟨⟨2, 10⟩, [10, 11], 1⟩, 3⟩] } : CpuM).tasks.length).length = n4 := hn4; rw [hn4']; clear hran hs h1 hn4 hn4')
  clear HR
  have hs5 := HS.out.alloc (ranO 100 b1 0 k1 b2 0 k2 b3 n4 k3)
  generalize hV5 : w5.alloc (ranO 100 b1 0 k1 b2 0 k2 b3 n4 k3) = V5 at hs5 ⊢
  clear hV5
  generalize w5.heap.size = B5 at hs5 ⊢
  have HS := Box.mk hs5
  clear hs5
  have HR := Box.mk (ctick_st w V5 c aM4 _ HS.out a_ok4)
  go_upto_region 9 with (go_at_call 14; refine HR.out.mono ?_; rintro e w6 ⟨M1, who, nd, nc, d1, j1, d2, j2, d3, j3, hran, rfl, hs⟩; obtain ⟨h1, hwk⟩ := hran.work (by rw [a_s4]) a_f a_h; obtain ⟨h3, h4, h5⟩ := a_5 hwk; rw [h5] at hs; obtain rfl : who = 0 := (by simpa using h1); subst h3; subst h4; have HS := Box.mk hs; obtain ⟨n5, hn5⟩ : ∃ n5, (lateIds (aM4.now + 1) M1.tasks M1.tasks.length).length = n5 := ⟨_, rfl⟩; rw [hn5]; clear hran hs h1 hn5 hwk h5)
  clear HR
  have hs6 := HS.out.alloc (ranO 0 d1 0 j1 d2 1 j2 d3 n5 j3)
  generalize hV6 : w6.alloc (ranO 0 d1 0 j1 d2 1 j2 d3 n5 j3) = V6 at hs6 ⊢
  clear hV6
  generalize w6.heap.size = B6 at hs6 ⊢
  have HS := Box.mk hs6
  clear hs6
  have HNO := Box.mk (cnow_st w V6 c aM5 _ HS.out)
  have x6 := cell_blk (HS.out.blk (List.mem_cons_self ..)) 0
  have x62 := cell_blk (HS.out.blk (List.mem_cons_self ..)) 2
  have x5 := cell_blk (HS.out.blk (List.mem_cons_of_mem _ (List.mem_cons_self ..))) 0
  have x4 := cell_blk (HS.out.blk (List.mem_cons_of_mem _ (List.mem_cons_of_mem _ (List.mem_cons_self ..)))) 0
  simp only [List.getElem?_toArray, List.getElem?_cons_zero, List.getElem?_cons_succ] at x4 x5 x6 x62
  go_wp2_with (first
    | (go_at_call 22; refine HNO.out.mono ?_; rintro e w7 ⟨rfl, hs⟩; have HS := Box.mk hs; have HWO := Box.mk (cwork_st w w7 c aM5 _ hs 0); clear hs)
    | (go_at_call 13; refine HWO.out.mono ?_; rw [a_work]; rintro e w8 ⟨rfl, hs⟩; have HS := Box.mk hs; have HRE := Box.mk (crelease_st w w8 c aM5 _ hs 0 1 (fun t ht => by simp [aM5, aT] at ht; subst ht; decide) (by decide) a_len); clear hs)
    | (go_at_call 19; refine HRE.out.mono ?_; rw [a_den]; rintro e w9 ⟨rfl, hs⟩; have HS := Box.mk hs; clear hs))
  go_ret
  exact ⟨rfl, HS.out.below⟩

end Go.Proofs.Ytbedknfapiadbaa
