/- The reference of layer 7: points in space: Less, TimesSpace, Vector, Across, Six, FarSpace. -/
import Derived.Test.YtgdlfjofefhdoaaGreatDoorOpt
import Derived.Test.YtgdlfjofefhdoaaGreatDoorVecSp
namespace Go.Proofs.YtgdlfjofefhdoaaGreatDoor
open Go.RowKit Go.Sort Go.Lib Mb

set_option maxHeartbeats 400000 in
theorem less_calls (a b : P3) (w : World) (ha : Bd3 1000000 a) (hb : Bd3 1000000 b) :
    Calls Tryz.prog 118 #[V3 a, V3 b] w fun e w' => e = .returned (V3 (sub3 a b)) ∧ Below w.heap.size w w' := by
  obtain ⟨⟨a1, a2⟩, ⟨a3, a4⟩, a5, a6⟩ := ha
  obtain ⟨⟨b1, b2⟩, ⟨b3, b4⟩, b5, b6⟩ := hb
  obtain ⟨ax, ay, az⟩ := a
  obtain ⟨bx, by', bz⟩ := b
  simp only at a1 a2 a3 a4 a5 a6 b1 b2 b3 b4 b5 b6
  go_enter Tryz.func118, Tryz.ntmps118
  go_wp2
  exact bodyPost_ret (v := .agg #[.int .i64 (ax - bx), .int .i64 (ay - by'), .int .i64 (az - bz)]) (by simp [results, Tryz.results118, go_sem]) rfl ⟨rfl, below3 _ _ _ _⟩

set_option maxHeartbeats 800000 in
theorem timesS_calls (a b : P3) (M N : Int) (w : World) (ha : Bd3 M a) (hb : Bd3 N b) (hMN : M * N ≤ 2000000000000000000) :
    Calls Tryz.prog 119 #[V3 a, V3 b] w fun e w' => e = .returned (.int .i64 (dt3 a b)) ∧ Below w.heap.size w w' := by
  have h1 := Mb.mul_bd ha.1 hb.1
  have h2 := Mb.mul_bd ha.2.1 hb.2.1
  have h3 := Mb.mul_bd ha.2.2 hb.2.2
  obtain ⟨l1, u1⟩ : -2000000000000000000 ≤ a.x * b.x ∧ a.x * b.x ≤ 2000000000000000000 := by omega
  obtain ⟨l2, u2⟩ : -2000000000000000000 ≤ a.y * b.y ∧ a.y * b.y ≤ 2000000000000000000 := by omega
  obtain ⟨l3, u3⟩ : -2000000000000000000 ≤ a.z * b.z ∧ a.z * b.z ≤ 2000000000000000000 := by omega
  clear ha hb h1 h2 h3 hMN
  obtain ⟨ax, ay, az⟩ := a
  obtain ⟨bx, by', bz⟩ := b
  simp only at l1 u1 l2 u2 l3 u3
  go_enter Tryz.func119, Tryz.ntmps119
  go_wp2
  go_ret
  exact ⟨rfl, below2 _ _ _⟩

set_option maxHeartbeats 800000 in
theorem rvec_calls (a b : P3) (w : World) (ha : Bd3 1000000000 a) (hb : Bd3 1000000000 b) :
    Calls Tryz.prog 117 #[V3 a, V3 b] w fun e w' => e = .returned (V3 (vec a b)) ∧ Below w.heap.size w w' := by
  obtain ⟨l1, u1⟩ := Mb.mul_bd ha.2.1 hb.2.2
  obtain ⟨l2, u2⟩ := Mb.mul_bd ha.2.2 hb.2.1
  obtain ⟨l3, u3⟩ := Mb.mul_bd ha.2.2 hb.1
  obtain ⟨l4, u4⟩ := Mb.mul_bd ha.1 hb.2.2
  obtain ⟨l5, u5⟩ := Mb.mul_bd ha.1 hb.2.1
  obtain ⟨l6, u6⟩ := Mb.mul_bd ha.2.1 hb.1
  clear ha hb
  obtain ⟨ax, ay, az⟩ := a
  obtain ⟨bx, by', bz⟩ := b
  simp only at l1 u1 l2 u2 l3 u3 l4 u4 l5 u5 l6 u6
  go_enter Tryz.func117, Tryz.ntmps117
  go_wp2
  exact bodyPost_ret (v := .agg #[.int .i64 (ay * bz - az * by'), .int .i64 (az * bx - ax * bz), .int .i64 (ax * by' - ay * bx)]) (by simp [results, Tryz.results117, go_sem]) rfl ⟨rfl, below3 _ _ _ _⟩

set_option maxHeartbeats 1600000 in
theorem across_calls (a b c : P3) (w : World) (ha : Bd3 1000000 a) (hb : Bd3 1000000 b) (hc : Bd3 1000000 c) :
    Calls Tryz.prog 68 #[V3 a, V3 b, V3 c] w fun e w' => e = .returned (V3 (nrm a b c)) ∧ Below w.heap.size w w' := by
  have h1 := (ha.sub hb).mono (show (1000000 : Int) + 1000000 ≤ 1000000000 by omega)
  have h2 := (ha.sub hc).mono (show (1000000 : Int) + 1000000 ≤ 1000000000 by omega)
  have HA := Lib.hid (And.intro ha (And.intro hb (And.intro hc (And.intro h1 h2)))); clear ha hb hc h1 h2
  go_enter Tryz.func68, Tryz.ntmps68
  go_wp2_with fail
  obtain ⟨W, hW⟩ : ∃ W, W = (((w.alloc (B3 a 33)).alloc (B3 b 33)).alloc (B3 c 33)).alloc (.cells #[.int .i64 0, .int .i64 0, .int .i64 0] 33) := ⟨_, rfl⟩
  rw [← hW]
  have hbel : Below w.heap.size w W := by rw [hW]; exact below_trans (below3 _ _ _ _) (alloc_below _ _)
  have hx := bx3_3 w a b c 33 33 33
  have g1 : Bx3 W w.heap.size a := by rw [hW]; exact hx.1.to (alloc_below _ _)
  have g2 : Bx3 W (w.heap.size + 1) b := by rw [hW]; exact hx.2.1.to (alloc_below _ _)
  have g3 : Bx3 W (w.heap.size + 2) c := by rw [hW]; exact hx.2.2.to (alloc_below _ _)
  have g4 : Blk W (w.heap.size + 3) #[.int .i64 0, .int .i64 0, .int .i64 0] 33 := by
    rw [hW]
    have := blk_new (((w.alloc (B3 a 33)).alloc (B3 b 33)).alloc (B3 c 33)) #[.int .i64 0, .int .i64 0, .int .i64 0] 33
    rwa [size_alloc1, size_alloc1, size_alloc1] at this
  clear hx hW
  have HW := Lib.hid (And.intro hbel g4)
  have B0 : Below W.heap.size W W.drew := (Below.refl _ _).drew
  go_region_held3 (fun w' => w'.cell? ⟨w.heap.size, 0, none⟩ = some (.int .i64 a.x) ∧ w'.cell? ⟨w.heap.size, 1, none⟩ = some (.int .i64 a.y) ∧ w'.cell? ⟨w.heap.size, 2, none⟩ = some (.int .i64 a.z) ∧ w'.cell? ⟨w.heap.size + 1, 0, none⟩ = some (.int .i64 b.x) ∧ w'.cell? ⟨w.heap.size + 1, 1, none⟩ = some (.int .i64 b.y) ∧ w'.cell? ⟨w.heap.size + 1, 2, none⟩ = some (.int .i64 b.z) ∧ w'.cell? ⟨w.heap.size + 1 + 1, 0, none⟩ = some (.int .i64 c.x) ∧ w'.cell? ⟨w.heap.size + 1 + 1, 1, none⟩ = some (.int .i64 c.y) ∧ w'.cell? ⟨w.heap.size + 1 + 1, 2, none⟩ = some (.int .i64 c.z))
    (first | exact keep9 (g1.to B0) (g2.to B0) (g3.to B0) | exact keep9 (g1.to B1) (g2.to B1) (g3.to B1) | exact keep9 (g1.to B2) (g2.to B2) (g3.to B2) | exact keep9 (g1.to B3) (g2.to B3) (g3.to B3) | (have B4 := (((B3.mono (Nat.le_of_lt g4.lt)).setCell (p := ⟨w.heap.size + 1 + 1 + 1, 0, none⟩) (Nat.le_refl _) (.int .i64 (nrm a b c).x)).setCell (p := ⟨w.heap.size + 1 + 1 + 1, 1, none⟩) (Nat.le_refl _) (.int .i64 (nrm a b c).y)).setCell (p := ⟨w.heap.size + 1 + 1 + 1, 2, none⟩) (Nat.le_refl _) (.int .i64 (nrm a b c).z); exact keep9 (g1.below B4 (by omega)) (g2.below B4 (by omega)) (g3.below B4 (by omega))))
    (first | (go_at_call 118; (with_reducible refine (less_calls b a _ HA.out.2.1 HA.out.1).mono ?_); rintro e w1 ⟨rfl, hb1⟩; have B1 := below_trans B0 hb1) | (go_at_call 118; (with_reducible refine (less_calls c a _ HA.out.2.2.1 HA.out.1).mono ?_); rintro e w2 ⟨rfl, hb2⟩; have B2 := below_trans B1 hb2) | (go_at_call 117; refine (rvec_calls _ _ _ HA.out.2.2.2.1 HA.out.2.2.2.2).mono ?_; rintro e w3 ⟨rfl, hb3⟩; have B3 := below_trans B2 hb3; have s0 : w3.cell? ⟨w.heap.size + 1 + 1 + 1, 0, none⟩ = some (.int .i64 0) := (g4.to B3).c 0 _ rfl; have s1 : w3.cell? ⟨w.heap.size + 1 + 1 + 1, 1, none⟩ = some (.int .i64 0) := (g4.to B3).c 1 _ rfl; have s2 : w3.cell? ⟨w.heap.size + 1 + 1 + 1, 2, none⟩ = some (.int .i64 0) := (g4.to B3).c 2 _ rfl; have s3 := (g4.to B3).free 0; have s4 := (g4.to B3).free 1; have s5 := (g4.to B3).free 2))
  have hn := (g4.to B3)
  have r0 : (w3.setCell ⟨w.heap.size + 1 + 1 + 1, 0, none⟩ (.int .i64 (vec (sub3 b a) (sub3 c a)).x)).cell? ⟨w.heap.size + 1 + 1 + 1, 0, none⟩ = some (.int .i64 (vec (sub3 b a) (sub3 c a)).x) := (hn.set 0 _).c 0 _ rfl
  have r1 : ((w3.setCell ⟨w.heap.size + 1 + 1 + 1, 0, none⟩ (.int .i64 (vec (sub3 b a) (sub3 c a)).x)).setCell ⟨w.heap.size + 1 + 1 + 1, 1, none⟩ (.int .i64 (vec (sub3 b a) (sub3 c a)).y)).cell? ⟨w.heap.size + 1 + 1 + 1, 1, none⟩ = some (.int .i64 (vec (sub3 b a) (sub3 c a)).y) := ((hn.set 0 _).set 1 _).c 1 _ rfl
  have r2 : (((w3.setCell ⟨w.heap.size + 1 + 1 + 1, 0, none⟩ (.int .i64 (vec (sub3 b a) (sub3 c a)).x)).setCell ⟨w.heap.size + 1 + 1 + 1, 1, none⟩ (.int .i64 (vec (sub3 b a) (sub3 c a)).y)).setCell ⟨w.heap.size + 1 + 1 + 1, 2, none⟩ (.int .i64 (vec (sub3 b a) (sub3 c a)).z)).cell? ⟨w.heap.size + 1 + 1 + 1, 2, none⟩ = some (.int .i64 (vec (sub3 b a) (sub3 c a)).z) := (((hn.set 0 _).set 1 _).set 2 _).c 2 _ rfl
  have B4 : Below w.heap.size w w3 := hbel.trans (B3.mono hbel.size)
  go_wp2_with fail
  refine bodyPost_ret (v := V3 (nrm a b c)) (by simp [results, Tryz.results68, go_sem, r0, r1, r2]; exact ⟨rfl, rfl, rfl⟩) rfl ⟨rfl, ?_⟩
  exact ((B4.setCell (p := ⟨w.heap.size + 1 + 1 + 1, 0, none⟩) (by show w.heap.size ≤ w.heap.size + 1 + 1 + 1; omega) _).setCell (p := ⟨w.heap.size + 1 + 1 + 1, 1, none⟩) (by show w.heap.size ≤ w.heap.size + 1 + 1 + 1; omega) _).setCell (p := ⟨w.heap.size + 1 + 1 + 1, 2, none⟩) (by show w.heap.size ≤ w.heap.size + 1 + 1 + 1; omega) _

set_option maxHeartbeats 1600000 in
theorem six_calls (a b c d : P3) (w : World) (ha : Bd3 100000 a) (hb : Bd3 100000 b) (hc : Bd3 100000 c) (hd : Bd3 100000 d) :
    Calls Tryz.prog 71 #[V3 a, V3 b, V3 c, V3 d] w fun e w' => e = .returned (.int .i64 (six a b c d)) ∧ Below w.heap.size w w' := by
  obtain ⟨W, hW⟩ : ∃ W, W = (((w.alloc (B3 a 33)).alloc (B3 b 33)).alloc (B3 c 33)).alloc (B3 d 33) := ⟨_, rfl⟩
  have hb0 : Below w.heap.size w W := by rw [hW]; exact below_trans (below3 _ _ _ _) (alloc_below _ _)
  have hx := bx3_4 w a b c d 33 33 33 33
  rw [← hW] at hx
  obtain ⟨h1, h2, h3, h4⟩ := hx
  have k1 := cell_regrown h1.1
  have k2 := cell_regrown h1.2.1
  have k3 := cell_regrown h1.2.2
  have k4 := cell_regrown h2.1
  have k5 := cell_regrown h2.2.1
  have k6 := cell_regrown h2.2.2
  have k7 := cell_regrown h3.1
  have k8 := cell_regrown h3.2.1
  have k9 := cell_regrown h3.2.2
  have k10 := cell_regrown h4.1
  have k11 := cell_regrown h4.2.1
  have k12 := cell_regrown h4.2.2
  have HA := Lib.hid (And.intro ha (And.intro hb (And.intro hc hd))); clear ha hb hc hd
  have q1 : ∀ d' os, Calls Tryz.prog 68 #[V3 a, V3 b, V3 c] (grow (redrawn W d') os) fun e w'' => e = .returned (V3 (nrm a b c)) ∧ ∃ p : Regrown, w'' = grow (redrawn W p.d) p.os := fun d' os => Calls.regrown_of (across_calls a b c _ (HA.out.1.mono (by omega)) (HA.out.2.1.mono (by omega)) (HA.out.2.2.1.mono (by omega)))
  have q2 : ∀ d' os, Calls Tryz.prog 118 #[V3 d, V3 a] (grow (redrawn W d') os) fun e w'' => e = .returned (V3 (sub3 d a)) ∧ ∃ p : Regrown, w'' = grow (redrawn W p.d) p.os := fun d' os => Calls.regrown_of (less_calls d a _ (HA.out.2.2.2.mono (by omega)) (HA.out.1.mono (by omega)))
  have q3 : ∀ d' os, Calls Tryz.prog 119 #[V3 (nrm a b c), V3 (sub3 d a)] (grow (redrawn W d') os) fun e w'' => e = .returned (.int .i64 (six a b c d)) ∧ ∃ p : Regrown, w'' = grow (redrawn W p.d) p.os := fun d' os => Calls.regrown_of (timesS_calls _ _ _ _ _ (nrm_bd HA.out.1 HA.out.2.1 HA.out.2.2.1) (HA.out.1.sub HA.out.2.2.2) (by omega))
  clear h1 h2 h3 h4
  go_enter Tryz.func71, Tryz.ntmps71
  go_wp2_with fail
  rw [← hW]
  clear hW
  refine wp_region_quiet_below follows (by kernel_rfl) ?_
  repeat (quiet_step (first | with_reducible exact q1 _ _ | with_reducible exact q2 _ _ | with_reducible exact q3 _ _))
  refine wpQuiet_nil ?_
  intro _ hw'
  obtain ⟨⟨dq, osq⟩, hw''⟩ := hw'
  subst hw''
  go_wp2_with fail
  go_ret
  exact ⟨rfl, below_trans hb0 (below_regrown W dq osq)⟩

set_option maxHeartbeats 1600000 in
theorem farS_calls (a b : P3) (w : World) (ha : Bd3 100000 a) (hb : Bd3 100000 b) :
    Calls Tryz.prog 72 #[V3 a, V3 b] w fun e w' => e = .returned (.int .i64 (dt3 (sub3 a b) (sub3 a b))) ∧ Below w.heap.size w w' := by
  obtain ⟨W, hW⟩ : ∃ W, W = (w.alloc (B3 a 33)).alloc (B3 b 33) := ⟨_, rfl⟩
  have hb0 : Below w.heap.size w W := by rw [hW]; exact below2 _ _ _
  have hx := bx3_2 w a b 33 33
  rw [← hW] at hx
  obtain ⟨h1, h2⟩ := hx
  have k1 := cell_regrown h1.1
  have k2 := cell_regrown h1.2.1
  have k3 := cell_regrown h1.2.2
  have k4 := cell_regrown h2.1
  have k5 := cell_regrown h2.2.1
  have k6 := cell_regrown h2.2.2
  have HA := Lib.hid (And.intro ha hb); clear ha hb
  have q1 : ∀ d os, Calls Tryz.prog 118 #[V3 a, V3 b] (grow (redrawn W d) os) fun e w'' => e = .returned (V3 (sub3 a b)) ∧ ∃ p : Regrown, w'' = grow (redrawn W p.d) p.os := fun d os => Calls.regrown_of (less_calls a b _ (HA.out.1.mono (by omega)) (HA.out.2.mono (by omega)))
  have q3 : ∀ d os, Calls Tryz.prog 119 #[V3 (sub3 a b), V3 (sub3 a b)] (grow (redrawn W d) os) fun e w'' => e = .returned (.int .i64 (dt3 (sub3 a b) (sub3 a b))) ∧ ∃ p : Regrown, w'' = grow (redrawn W p.d) p.os := fun d os => Calls.regrown_of (timesS_calls _ _ _ _ _ (HA.out.2.sub HA.out.1) (HA.out.2.sub HA.out.1) (by omega))
  clear h1 h2
  go_enter Tryz.func72, Tryz.ntmps72
  go_wp2_with fail
  rw [← hW]
  clear hW
  refine wp_region_quiet_below follows (by kernel_rfl) ?_
  repeat (quiet_step (first | with_reducible exact q1 _ _ | with_reducible exact q3 _ _))
  refine wpQuiet_nil ?_
  intro _ hw'
  obtain ⟨⟨dq, osq⟩, hw''⟩ := hw'
  subst hw''
  go_wp2_with fail
  go_ret
  exact ⟨rfl, below_trans hb0 (below_regrown W dq osq)⟩

end Go.Proofs.YtgdlfjofefhdoaaGreatDoor
