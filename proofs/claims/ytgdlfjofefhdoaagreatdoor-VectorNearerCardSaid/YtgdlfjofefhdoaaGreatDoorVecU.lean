/- Package vector: Normal and SquareSpace. -/
import Derived.Test.YtgdlfjofefhdoaaGreatDoorVecT
namespace Go.Proofs.YtgdlfjofefhdoaaGreatDoor
open Go.RowKit Go.Sort Go.Lib Mb

set_option maxHeartbeats 800000 in
theorem SquareSpace_ok (a b : P3) (w : World) (ha : highB a = true) (hb : highB b = true) :
    Calls Tryz.prog 20 #[V3 a, V3 b] w fun e w' => e = .returned (.tuple #[.int .i64 (dt3 (sub3 b a) (sub3 b a)), .int .i64 0]) ∧ Below w.heap.size w w' := by
  have he : errOf3 [a, b] = 0 := err3_ok (by simp [ha, hb])
  have hx := bx3_2 w a b 33 33
  have hp := spts_new2 ((w.alloc (B3 a 33)).alloc (B3 b 33)) a b 33
  rw [size_alloc1, size_alloc1] at hp
  have HX := Lib.hid (And.intro hx hp); clear hx hp
  have HE := Lib.hid he; clear he
  have HA := Lib.hid (And.intro (bd_high ha) (bd_high hb)); clear ha hb
  go_enter Tryz.func20, Tryz.ntmps20
  go_wp2_with fail
  refine (allS_is [a, b] 0 HE.out _ 0 _ 2 rfl _ HX.out.2 (by simp)).mono ?_
  rintro e w1 ⟨rfl, hb1⟩
  have hb0 := below_trans (below_trans (below2 w _ _) (alloc_below _ _)) hb1
  have h1 := (HX.out.1.1.to (alloc_below _ _)).to hb1
  have h2 := (HX.out.1.2.to (alloc_below _ _)).to hb1
  obtain ⟨c1, c2, c3⟩ := h1
  obtain ⟨c4, c5, c6⟩ := h2
  clear HX hb1
  go_wp2_with fail
  refine (reach_calls a b _ (HA.out.1.mono (by omega)) (HA.out.2.mono (by omega))).mono ?_
  rintro e w2 ⟨rfl, hb2⟩
  have hb00 := below_trans hb0 hb2
  have hn := bx3_new w2 (sub3 b a) 104
  obtain ⟨d1, d2, d3⟩ := hn
  have hW : Below w.heap.size w (w2.alloc (B3 (sub3 b a) 104)) := below_trans hb00 (alloc_below _ _)
  go_wp2_with fail
  refine (bdot_calls (sub3 b a) (sub3 b a) _ _ _ (HA.out.1.sub HA.out.2) (HA.out.1.sub HA.out.2) (by omega)).mono ?_
  rintro e w3 ⟨rfl, hb3⟩
  have hb4 := below_trans hW hb3
  go_wp2_with fail
  go_ret2
  exact ⟨rfl, hb4⟩

set_option maxHeartbeats 800000 in
theorem SquareSpace_err (a b : P3) (w : World) (he : errOf3 [a, b] = 2) :
    Calls Tryz.prog 20 #[V3 a, V3 b] w fun e w' => e = .returned (.tuple #[.int .i64 0, .int .i64 2]) ∧ Below w.heap.size w w' := by
  have hp := spts_new2 ((w.alloc (B3 a 33)).alloc (B3 b 33)) a b 33
  rw [size_alloc1, size_alloc1] at hp
  have HX := Lib.hid hp; clear hp
  have HE := Lib.hid he; clear he
  go_enter Tryz.func20, Tryz.ntmps20
  go_wp2_with fail
  refine (allS_is [a, b] 2 HE.out _ 0 _ 2 rfl _ HX.out (by simp)).mono ?_
  rintro e w1 ⟨rfl, hb1⟩
  have hb0 := below_trans (below_trans (below2 w _ _) (alloc_below _ _)) hb1
  clear HX hb1
  go_wp2_with fail
  go_ret2
  exact ⟨rfl, hb0⟩

set_option maxHeartbeats 800000 in
theorem Normal_ok (a b c : P3) (w : World) (ha : highB a = true) (hb : highB b = true) (hc : highB c = true) :
    Calls Tryz.prog 16 #[V3 a, V3 b, V3 c] w fun e w' => e = .returned (.tuple #[V3 (nrm a b c), .int .i64 0]) ∧ Below w.heap.size w w' := by
  have he : errOf3 [a, b, c] = 0 := err3_ok (by simp [ha, hb, hc])
  have hx := bx3_3 w a b c 33 33 33
  have hr := blk_new (((w.alloc (B3 a 33)).alloc (B3 b 33)).alloc (B3 c 33)) #[.int .i64 0, .int .i64 0, .int .i64 0] 35
  have hp := spts_new3 ((((w.alloc (B3 a 33)).alloc (B3 b 33)).alloc (B3 c 33)).alloc (.cells #[.int .i64 0, .int .i64 0, .int .i64 0] 35)) a b c 33
  rw [size_alloc1, size_alloc1, size_alloc1] at hr
  rw [size_alloc1, size_alloc1, size_alloc1, size_alloc1] at hp
  have HX := Lib.hid (And.intro hx (And.intro hr hp)); clear hx hr hp
  have HE := Lib.hid he; clear he
  have HA := Lib.hid (And.intro (bd_high ha) (And.intro (bd_high hb) (bd_high hc))); clear ha hb hc
  go_enter Tryz.func16, Tryz.ntmps16
  go_wp2_with fail
  refine (allS_is [a, b, c] 0 HE.out _ 0 _ 3 rfl _ HX.out.2.2 (by simp)).mono ?_
  rintro e w1 ⟨rfl, hb1⟩
  have hb0 := below_trans (below_trans (below_trans (below3 w _ _ _) (alloc_below _ _)) (alloc_below _ _)) hb1
  have h1 := ((HX.out.1.1.to (alloc_below _ _)).to (alloc_below _ _)).to hb1
  have h2 := ((HX.out.1.2.1.to (alloc_below _ _)).to (alloc_below _ _)).to hb1
  have h3 := ((HX.out.1.2.2.to (alloc_below _ _)).to (alloc_below _ _)).to hb1
  have h4 := (HX.out.2.1.to (alloc_below _ _)).to hb1
  obtain ⟨c1, c2, c3⟩ := h1
  obtain ⟨c4, c5, c6⟩ := h2
  obtain ⟨c7, c8, c9⟩ := h3
  clear HX hb1
  go_wp2_with fail
  refine (normal_calls a b c _ (HA.out.1.mono (by omega)) (HA.out.2.1.mono (by omega)) (HA.out.2.2.mono (by omega))).mono ?_
  rintro e w2 ⟨rfl, hb2⟩
  have hb00 := below_trans hb0 hb2
  have hn := bx3_new w2 (nrm a b c) 104
  obtain ⟨d1, d2, d3⟩ := hn
  have g4 := (h4.to hb2).to (alloc_below _ (B3 (nrm a b c) 104))
  have f0 := g4.free 0
  have f1 := g4.free 1
  have f2 := g4.free 2
  have e0 := g4.c 0 _ rfl
  have e1 := g4.c 1 _ rfl
  have e2 := g4.c 2 _ rfl
  have hW : Below w.heap.size w (w2.alloc (B3 (nrm a b c) 104)) := below_trans hb00 (alloc_below _ _)
  go_wp2_with fail
  have r0 := (g4.set 0 (.int .i64 (nrm a b c).x)).c 0 _ rfl
  have r1 := ((g4.set 0 (.int .i64 (nrm a b c).x)).set 1 (.int .i64 (nrm a b c).y)).c 1 _ rfl
  have r2 := (((g4.set 0 (.int .i64 (nrm a b c).x)).set 1 (.int .i64 (nrm a b c).y)).set 2 (.int .i64 (nrm a b c).z)).c 2 _ rfl
  refine bodyPost_ret (v := .tuple #[V3 (nrm a b c), .int .i64 0]) (by simp [results, Tryz.results16, go_sem, r0, r1, r2]; done) rfl ⟨rfl, ?_⟩
  exact ((hW.setCell (p := ⟨w.heap.size + 1 + 1 + 1, 0, none⟩) (by show w.heap.size ≤ w.heap.size + 1 + 1 + 1; omega) _).setCell (p := ⟨w.heap.size + 1 + 1 + 1, 1, none⟩) (by show w.heap.size ≤ w.heap.size + 1 + 1 + 1; omega) _).setCell (p := ⟨w.heap.size + 1 + 1 + 1, 2, none⟩) (by show w.heap.size ≤ w.heap.size + 1 + 1 + 1; omega) _

set_option maxHeartbeats 800000 in
theorem Normal_err (a b c : P3) (w : World) (he : errOf3 [a, b, c] = 2) :
    Calls Tryz.prog 16 #[V3 a, V3 b, V3 c] w fun e w' => e = .returned (.tuple #[.agg #[.int .i64 0, .int .i64 0, .int .i64 0], .int .i64 2]) ∧ Below w.heap.size w w' := by
  have hr := blk_new (((w.alloc (B3 a 33)).alloc (B3 b 33)).alloc (B3 c 33)) #[.int .i64 0, .int .i64 0, .int .i64 0] 35
  have hp := spts_new3 ((((w.alloc (B3 a 33)).alloc (B3 b 33)).alloc (B3 c 33)).alloc (.cells #[.int .i64 0, .int .i64 0, .int .i64 0] 35)) a b c 33
  rw [size_alloc1, size_alloc1, size_alloc1] at hr
  rw [size_alloc1, size_alloc1, size_alloc1, size_alloc1] at hp
  have HX := Lib.hid (And.intro hr hp); clear hr hp
  have HE := Lib.hid he; clear he
  go_enter Tryz.func16, Tryz.ntmps16
  go_wp2_with fail
  refine (allS_is [a, b, c] 2 HE.out _ 0 _ 3 rfl _ HX.out.2 (by simp)).mono ?_
  rintro e w1 ⟨rfl, hb1⟩
  have hb0 := below_trans (below_trans (below_trans (below3 w _ _ _) (alloc_below _ _)) (alloc_below _ _)) hb1
  have g4 := (HX.out.1.to (alloc_below _ _)).to hb1
  have f0 := g4.free 0
  have f1 := g4.free 1
  have f2 := g4.free 2
  have e0 := g4.c 0 _ rfl
  have e1 := g4.c 1 _ rfl
  have e2 := g4.c 2 _ rfl
  clear HX hb1
  go_wp2_with fail
  have r0 := (g4.set 0 (.int .i64 0)).c 0 _ rfl
  have r1 := ((g4.set 0 (.int .i64 0)).set 1 (.int .i64 0)).c 1 _ rfl
  have r2 := (((g4.set 0 (.int .i64 0)).set 1 (.int .i64 0)).set 2 (.int .i64 0)).c 2 _ rfl
  refine bodyPost_ret (v := .tuple #[.agg #[.int .i64 0, .int .i64 0, .int .i64 0], .int .i64 2]) (by simp [results, Tryz.results16, go_sem, r0, r1, r2]; done) rfl ⟨rfl, ?_⟩
  exact ((hb0.setCell (p := ⟨w.heap.size + 1 + 1 + 1, 0, none⟩) (by show w.heap.size ≤ w.heap.size + 1 + 1 + 1; omega) _).setCell (p := ⟨w.heap.size + 1 + 1 + 1, 1, none⟩) (by show w.heap.size ≤ w.heap.size + 1 + 1 + 1; omega) _).setCell (p := ⟨w.heap.size + 1 + 1 + 1, 2, none⟩) (by show w.heap.size ≤ w.heap.size + 1 + 1 + 1; omega) _

end Go.Proofs.YtgdlfjofefhdoaaGreatDoor
