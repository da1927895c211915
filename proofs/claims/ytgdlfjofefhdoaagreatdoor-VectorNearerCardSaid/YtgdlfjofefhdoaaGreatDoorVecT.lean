/- Package vector: normal, Normal, Volume, SquareSpace, ToPlane. -/
import Derived.Test.YtgdlfjofefhdoaaGreatDoorVecS
namespace Go.Proofs.YtgdlfjofefhdoaaGreatDoor
open Go.RowKit Go.Sort Go.Lib Mb

theorem keep9 {w : World} {i j k : Nat} {a b c : P3} (g1 : Bx3 w i a) (g2 : Bx3 w j b) (g3 : Bx3 w k c) :
    w.cell? ⟨i, 0, none⟩ = some (.int .i64 a.x) ∧ w.cell? ⟨i, 1, none⟩ = some (.int .i64 a.y) ∧ w.cell? ⟨i, 2, none⟩ = some (.int .i64 a.z) ∧
    w.cell? ⟨j, 0, none⟩ = some (.int .i64 b.x) ∧ w.cell? ⟨j, 1, none⟩ = some (.int .i64 b.y) ∧ w.cell? ⟨j, 2, none⟩ = some (.int .i64 b.z) ∧
    w.cell? ⟨k, 0, none⟩ = some (.int .i64 c.x) ∧ w.cell? ⟨k, 1, none⟩ = some (.int .i64 c.y) ∧ w.cell? ⟨k, 2, none⟩ = some (.int .i64 c.z) :=
  ⟨g1.1, g1.2.1, g1.2.2, g2.1, g2.2.1, g2.2.2, g3.1, g3.2.1, g3.2.2⟩

theorem Bx3.below {w w' : World} {b B : Nat} {p : P3} (h : Bx3 w b p) (hb : Below B w w') (hB : b < B) : Bx3 w' b p := ⟨(hb.cell (p := ⟨b, 0, none⟩) hB).trans h.1, (hb.cell (p := ⟨b, 1, none⟩) hB).trans h.2.1, (hb.cell (p := ⟨b, 2, none⟩) hB).trans h.2.2⟩

set_option maxHeartbeats 1600000 in
theorem normal_calls (a b c : P3) (w : World) (ha : Bd3 1000000 a) (hb : Bd3 1000000 b) (hc : Bd3 1000000 c) :
    Calls Tryz.prog 66 #[V3 a, V3 b, V3 c] w fun e w' => e = .returned (V3 (nrm a b c)) ∧ Below w.heap.size w w' := by
  have h1 := (ha.sub hb).mono (show (1000000 : Int) + 1000000 ≤ 1000000000 by omega)
  have h2 := (ha.sub hc).mono (show (1000000 : Int) + 1000000 ≤ 1000000000 by omega)
  have HA := Lib.hid (And.intro ha (And.intro hb (And.intro hc (And.intro h1 h2)))); clear ha hb hc h1 h2
  go_enter Tryz.func66, Tryz.ntmps66
  go_wp2_with fail
  obtain ⟨W, hW⟩ : ∃ W, W = (((w.alloc (B3 a 33)).alloc (B3 b 33)).alloc (B3 c 33)).alloc (.cells #[.int .i64 0, .int .i64 0, .int .i64 0] 104) := ⟨_, rfl⟩
  rw [← hW]
  have hbel : Below w.heap.size w W := by rw [hW]; exact below_trans (below3 _ _ _ _) (alloc_below _ _)
  have hx := bx3_3 w a b c 33 33 33
  have g1 : Bx3 W w.heap.size a := by rw [hW]; exact hx.1.to (alloc_below _ _)
  have g2 : Bx3 W (w.heap.size + 1) b := by rw [hW]; exact hx.2.1.to (alloc_below _ _)
  have g3 : Bx3 W (w.heap.size + 2) c := by rw [hW]; exact hx.2.2.to (alloc_below _ _)
  have g4 : Blk W (w.heap.size + 3) #[.int .i64 0, .int .i64 0, .int .i64 0] 104 := by
    rw [hW]
    have := blk_new (((w.alloc (B3 a 33)).alloc (B3 b 33)).alloc (B3 c 33)) #[.int .i64 0, .int .i64 0, .int .i64 0] 104
    rwa [size_alloc1, size_alloc1, size_alloc1] at this
  clear hx hW
  have HW := Lib.hid (And.intro hbel g4)
  have B0 : Below W.heap.size W W.drew := (Below.refl _ _).drew
  go_region_held3 (fun w' => w'.cell? ⟨w.heap.size, 0, none⟩ = some (.int .i64 a.x) ∧ w'.cell? ⟨w.heap.size, 1, none⟩ = some (.int .i64 a.y) ∧ w'.cell? ⟨w.heap.size, 2, none⟩ = some (.int .i64 a.z) ∧ w'.cell? ⟨w.heap.size + 1, 0, none⟩ = some (.int .i64 b.x) ∧ w'.cell? ⟨w.heap.size + 1, 1, none⟩ = some (.int .i64 b.y) ∧ w'.cell? ⟨w.heap.size + 1, 2, none⟩ = some (.int .i64 b.z) ∧ w'.cell? ⟨w.heap.size + 1 + 1, 0, none⟩ = some (.int .i64 c.x) ∧ w'.cell? ⟨w.heap.size + 1 + 1, 1, none⟩ = some (.int .i64 c.y) ∧ w'.cell? ⟨w.heap.size + 1 + 1, 2, none⟩ = some (.int .i64 c.z))
    (first | exact keep9 (g1.to B0) (g2.to B0) (g3.to B0) | exact keep9 (g1.to B1) (g2.to B1) (g3.to B1) | exact keep9 (g1.to B2) (g2.to B2) (g3.to B2) | exact keep9 (g1.to B3) (g2.to B3) (g3.to B3) | (have B4 := (((B3.mono (Nat.le_of_lt g4.lt)).setCell (p := ⟨w.heap.size + 1 + 1 + 1, 0, none⟩) (Nat.le_refl _) (.int .i64 (nrm a b c).x)).setCell (p := ⟨w.heap.size + 1 + 1 + 1, 1, none⟩) (Nat.le_refl _) (.int .i64 (nrm a b c).y)).setCell (p := ⟨w.heap.size + 1 + 1 + 1, 2, none⟩) (Nat.le_refl _) (.int .i64 (nrm a b c).z); exact keep9 (g1.below B4 (by omega)) (g2.below B4 (by omega)) (g3.below B4 (by omega))))
    (first | (go_at_call 70; (with_reducible refine (reach_calls a b _ HA.out.1 HA.out.2.1).mono ?_); rintro e w1 ⟨rfl, hb1⟩; have B1 := below_trans B0 hb1) | (go_at_call 70; (with_reducible refine (reach_calls a c _ HA.out.1 HA.out.2.2.1).mono ?_); rintro e w2 ⟨rfl, hb2⟩; have B2 := below_trans B1 hb2) | (go_at_call 115; refine (bturn_calls _ _ _ HA.out.2.2.2.1 HA.out.2.2.2.2).mono ?_; rintro e w3 ⟨rfl, hb3⟩; have B3 := below_trans B2 hb3; have s0 : w3.cell? ⟨w.heap.size + 1 + 1 + 1, 0, none⟩ = some (.int .i64 0) := (g4.to B3).c 0 _ rfl; have s1 : w3.cell? ⟨w.heap.size + 1 + 1 + 1, 1, none⟩ = some (.int .i64 0) := (g4.to B3).c 1 _ rfl; have s2 : w3.cell? ⟨w.heap.size + 1 + 1 + 1, 2, none⟩ = some (.int .i64 0) := (g4.to B3).c 2 _ rfl; have s3 := (g4.to B3).free 0; have s4 := (g4.to B3).free 1; have s5 := (g4.to B3).free 2))
  have hn := (g4.to B3)
  have r0 : (w3.setCell ⟨w.heap.size + 1 + 1 + 1, 0, none⟩ (.int .i64 (vec (sub3 b a) (sub3 c a)).x)).cell? ⟨w.heap.size + 1 + 1 + 1, 0, none⟩ = some (.int .i64 (vec (sub3 b a) (sub3 c a)).x) := (hn.set 0 _).c 0 _ rfl
  have r1 : ((w3.setCell ⟨w.heap.size + 1 + 1 + 1, 0, none⟩ (.int .i64 (vec (sub3 b a) (sub3 c a)).x)).setCell ⟨w.heap.size + 1 + 1 + 1, 1, none⟩ (.int .i64 (vec (sub3 b a) (sub3 c a)).y)).cell? ⟨w.heap.size + 1 + 1 + 1, 1, none⟩ = some (.int .i64 (vec (sub3 b a) (sub3 c a)).y) := ((hn.set 0 _).set 1 _).c 1 _ rfl
  have r2 : (((w3.setCell ⟨w.heap.size + 1 + 1 + 1, 0, none⟩ (.int .i64 (vec (sub3 b a) (sub3 c a)).x)).setCell ⟨w.heap.size + 1 + 1 + 1, 1, none⟩ (.int .i64 (vec (sub3 b a) (sub3 c a)).y)).setCell ⟨w.heap.size + 1 + 1 + 1, 2, none⟩ (.int .i64 (vec (sub3 b a) (sub3 c a)).z)).cell? ⟨w.heap.size + 1 + 1 + 1, 2, none⟩ = some (.int .i64 (vec (sub3 b a) (sub3 c a)).z) := (((hn.set 0 _).set 1 _).set 2 _).c 2 _ rfl
  have B4 : Below w.heap.size w w3 := hbel.trans (B3.mono hbel.size)
  go_wp2_with fail
  refine bodyPost_ret (v := V3 (nrm a b c)) (by simp [results, Tryz.results66, go_sem, r0, r1, r2]; exact ⟨rfl, rfl, rfl⟩) rfl ⟨rfl, ?_⟩
  exact ((B4.setCell (p := ⟨w.heap.size + 1 + 1 + 1, 0, none⟩) (by show w.heap.size ≤ w.heap.size + 1 + 1 + 1; omega) _).setCell (p := ⟨w.heap.size + 1 + 1 + 1, 1, none⟩) (by show w.heap.size ≤ w.heap.size + 1 + 1 + 1; omega) _).setCell (p := ⟨w.heap.size + 1 + 1 + 1, 2, none⟩) (by show w.heap.size ≤ w.heap.size + 1 + 1 + 1; omega) _

theorem spts_new2 (w : World) (a b : P3) (t : TypeId) : Spts (w.alloc (.cells #[.int .i64 a.x, .int .i64 a.y, .int .i64 a.z, .int .i64 b.x, .int .i64 b.y, .int .i64 b.z] t)) w.heap.size 0 [a, b] := by
  refine ⟨by simp, fun i h => ?_⟩
  match i, h with
  | 0, _ => exact ⟨cell_new _ _ _ _ _ rfl, cell_new _ _ _ _ _ rfl, cell_new _ _ _ _ _ rfl⟩
  | 1, _ => exact ⟨cell_new _ _ _ _ _ rfl, cell_new _ _ _ _ _ rfl, cell_new _ _ _ _ _ rfl⟩

theorem spts_new3 (w : World) (a b c : P3) (t : TypeId) : Spts (w.alloc (.cells #[.int .i64 a.x, .int .i64 a.y, .int .i64 a.z, .int .i64 b.x, .int .i64 b.y, .int .i64 b.z, .int .i64 c.x, .int .i64 c.y, .int .i64 c.z] t)) w.heap.size 0 [a, b, c] := by
  refine ⟨by simp, fun i h => ?_⟩
  match i, h with
  | 0, _ => exact ⟨cell_new _ _ _ _ _ rfl, cell_new _ _ _ _ _ rfl, cell_new _ _ _ _ _ rfl⟩
  | 1, _ => exact ⟨cell_new _ _ _ _ _ rfl, cell_new _ _ _ _ _ rfl, cell_new _ _ _ _ _ rfl⟩
  | 2, _ => exact ⟨cell_new _ _ _ _ _ rfl, cell_new _ _ _ _ _ rfl, cell_new _ _ _ _ _ rfl⟩

theorem spts_new4 (w : World) (a b c d : P3) (t : TypeId) : Spts (w.alloc (.cells #[.int .i64 a.x, .int .i64 a.y, .int .i64 a.z, .int .i64 b.x, .int .i64 b.y, .int .i64 b.z, .int .i64 c.x, .int .i64 c.y, .int .i64 c.z, .int .i64 d.x, .int .i64 d.y, .int .i64 d.z] t)) w.heap.size 0 [a, b, c, d] := by
  refine ⟨by simp, fun i h => ?_⟩
  match i, h with
  | 0, _ => exact ⟨cell_new _ _ _ _ _ rfl, cell_new _ _ _ _ _ rfl, cell_new _ _ _ _ _ rfl⟩
  | 1, _ => exact ⟨cell_new _ _ _ _ _ rfl, cell_new _ _ _ _ _ rfl, cell_new _ _ _ _ _ rfl⟩
  | 2, _ => exact ⟨cell_new _ _ _ _ _ rfl, cell_new _ _ _ _ _ rfl, cell_new _ _ _ _ _ rfl⟩
  | 3, _ => exact ⟨cell_new _ _ _ _ _ rfl, cell_new _ _ _ _ _ rfl, cell_new _ _ _ _ _ rfl⟩

theorem bx3_4 (w : World) (a b c d : P3) (t u v x : TypeId) : Bx3 ((((w.alloc (B3 a t)).alloc (B3 b u)).alloc (B3 c v)).alloc (B3 d x)) w.heap.size a ∧ Bx3 ((((w.alloc (B3 a t)).alloc (B3 b u)).alloc (B3 c v)).alloc (B3 d x)) (w.heap.size + 1) b ∧ Bx3 ((((w.alloc (B3 a t)).alloc (B3 b u)).alloc (B3 c v)).alloc (B3 d x)) (w.heap.size + 2) c ∧ Bx3 ((((w.alloc (B3 a t)).alloc (B3 b u)).alloc (B3 c v)).alloc (B3 d x)) (w.heap.size + 3) d :=
  ⟨(bx3_3 w a b c t u v).1.to (alloc_below _ _), (bx3_3 w a b c t u v).2.1.to (alloc_below _ _), (bx3_3 w a b c t u v).2.2.to (alloc_below _ _), by have := bx3_new (((w.alloc (B3 a t)).alloc (B3 b u)).alloc (B3 c v)) d x; rwa [size_alloc1, size_alloc1, size_alloc1] at this⟩

theorem nrm_bd {a b c : P3} (ha : Bd3 100000 a) (hb : Bd3 100000 b) (hc : Bd3 100000 c) : Bd3 80000000000 (nrm a b c) := by
  have h1 := ha.sub hb
  have h2 := ha.sub hc
  simp only [nrm, vec]
  generalize sub3 b a = u at *
  generalize sub3 c a = v at *
  obtain ⟨l1, u1⟩ := Mb.mul_bd h1.2.1 h2.2.2
  obtain ⟨l2, u2⟩ := Mb.mul_bd h1.2.2 h2.2.1
  obtain ⟨l3, u3⟩ := Mb.mul_bd h1.2.2 h2.1
  obtain ⟨l4, u4⟩ := Mb.mul_bd h1.1 h2.2.2
  obtain ⟨l5, u5⟩ := Mb.mul_bd h1.1 h2.2.1
  obtain ⟨l6, u6⟩ := Mb.mul_bd h1.2.1 h2.1
  refine ⟨⟨?_, ?_⟩, ⟨?_, ?_⟩, ?_, ?_⟩ <;> simp only [] <;> omega

set_option maxHeartbeats 800000 in
theorem Volume_ok (a b c d : P3) (w : World) (ha : highB a = true) (hb : highB b = true) (hc : highB c = true) (hd : highB d = true) :
    Calls Tryz.prog 18 #[V3 a, V3 b, V3 c, V3 d] w fun e w' => e = .returned (.tuple #[.int .i64 (six a b c d), .int .i64 0]) ∧ Below w.heap.size w w' := by
  have he : errOf3 [a, b, c, d] = 0 := err3_ok (by simp [ha, hb, hc, hd])
  have hx := bx3_4 w a b c d 33 33 33 33
  have hp := spts_new4 ((((w.alloc (B3 a 33)).alloc (B3 b 33)).alloc (B3 c 33)).alloc (B3 d 33)) a b c d 33
  rw [size_alloc1, size_alloc1, size_alloc1, size_alloc1] at hp
  have HX := Lib.hid (And.intro hx hp); clear hx hp
  have HE := Lib.hid he; clear he
  have HA := Lib.hid (And.intro (bd_high ha) (And.intro (bd_high hb) (And.intro (bd_high hc) (bd_high hd)))); clear ha hb hc hd
  go_enter Tryz.func18, Tryz.ntmps18
  go_wp2_with fail
  refine (allS_is [a, b, c, d] 0 HE.out _ 0 _ 4 rfl _ HX.out.2 (by simp)).mono ?_
  rintro e w1 ⟨rfl, hb1⟩
  have hb0 := below_trans (below_trans (below_trans (below3 w _ _ _) (alloc_below _ _)) (alloc_below _ _)) hb1
  have h1 := (HX.out.1.1.to (alloc_below _ _)).to hb1
  have h2 := (HX.out.1.2.1.to (alloc_below _ _)).to hb1
  have h3 := (HX.out.1.2.2.1.to (alloc_below _ _)).to hb1
  have h4 := (HX.out.1.2.2.2.to (alloc_below _ _)).to hb1
  clear HX hb1
  have k1 := cell_regrown h1.1
  have k2 := cell_regrown h1.2.1
  have k3 := cell_regrown h1.2.2
  have k4 := cell_regrown h2.1
  have k5 := cell_regrown h2.2.1
  have k6 := cell_regrown h2.2.2
  have k7 := cell_regrown h3.1
  have k8 := cell_regrown h3.2.1
  have k9 := cell_regrown h3.2.2
  have k10 := cell_regrown h4.1
  have k11 := cell_regrown h4.2.1
  have k12 := cell_regrown h4.2.2
  have q1 : ∀ d' os, Calls Tryz.prog 66 #[V3 a, V3 b, V3 c] (grow (redrawn w1 d') os) fun e w'' => e = .returned (V3 (nrm a b c)) ∧ ∃ p : Regrown, w'' = grow (redrawn w1 p.d) p.os := fun d' os => Calls.regrown_of (normal_calls a b c _ (HA.out.1.mono (by omega)) (HA.out.2.1.mono (by omega)) (HA.out.2.2.1.mono (by omega)))
  have q2 : ∀ d' os, Calls Tryz.prog 70 #[V3 a, V3 d] (grow (redrawn w1 d') os) fun e w'' => e = .returned (V3 (sub3 d a)) ∧ ∃ p : Regrown, w'' = grow (redrawn w1 p.d) p.os := fun d' os => Calls.regrown_of (reach_calls a d _ (HA.out.1.mono (by omega)) (HA.out.2.2.2.mono (by omega)))
  have q3 : ∀ d' os, Calls Tryz.prog 69 #[V3 (nrm a b c), V3 (sub3 d a)] (grow (redrawn w1 d') os) fun e w'' => e = .returned (.int .i64 (six a b c d)) ∧ ∃ p : Regrown, w'' = grow (redrawn w1 p.d) p.os := fun d' os => Calls.regrown_of (bdot_calls _ _ _ _ _ (nrm_bd HA.out.1 HA.out.2.1 HA.out.2.2.1) (HA.out.1.sub HA.out.2.2.2) (by omega))
  clear h1 h2 h3 h4
  go_wp2_with fail
  refine wp_region_quiet_below follows (by kernel_rfl) ?_
  repeat (quiet_step (first | with_reducible exact q1 _ _ | with_reducible exact q2 _ _ | with_reducible exact q3 _ _))
  refine wpQuiet_nil ?_
  intro _ hw'
  obtain ⟨⟨dq, osq⟩, hw''⟩ := hw'
  subst hw''
  go_wp2_with fail
  go_ret2
  exact ⟨rfl, below_trans hb0 (below_regrown w1 dq osq)⟩

set_option maxHeartbeats 800000 in
theorem Volume_err (a b c d : P3) (w : World) (he : errOf3 [a, b, c, d] = 2) :
    Calls Tryz.prog 18 #[V3 a, V3 b, V3 c, V3 d] w fun e w' => e = .returned (.tuple #[.int .i64 0, .int .i64 2]) ∧ Below w.heap.size w w' := by
  have hp := spts_new4 ((((w.alloc (B3 a 33)).alloc (B3 b 33)).alloc (B3 c 33)).alloc (B3 d 33)) a b c d 33
  rw [size_alloc1, size_alloc1, size_alloc1, size_alloc1] at hp
  have HX := Lib.hid hp; clear hp
  have HE := Lib.hid he; clear he
  go_enter Tryz.func18, Tryz.ntmps18
  go_wp2_with fail
  refine (allS_is [a, b, c, d] 2 HE.out _ 0 _ 4 rfl _ HX.out (by simp)).mono ?_
  rintro e w1 ⟨rfl, hb1⟩
  have hb0 := below_trans (below_trans (below_trans (below3 w _ _ _) (alloc_below _ _)) (alloc_below _ _)) hb1
  clear HX hb1
  go_wp2_with fail
  go_ret2
  exact ⟨rfl, hb0⟩

end Go.Proofs.YtgdlfjofefhdoaaGreatDoor
