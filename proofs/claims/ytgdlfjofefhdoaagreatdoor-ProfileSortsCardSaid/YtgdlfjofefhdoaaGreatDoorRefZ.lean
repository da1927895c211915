/- The reference of layer 7: Ratio, FromLine, ToLine, FromSegment, ToSegment. -/
import Derived.Test.YtgdlfjofefhdoaaGreatDoorPapC
import Derived.Test.YtgdlfjofefhdoaaGreatDoorRefAB
import Derived.Test.YtgdlfjofefhdoaaGreatDoorNearD
namespace Go.Proofs.YtgdlfjofefhdoaaGreatDoor
open Go.RowKit Go.Sort Go.Lib Mb

theorem rratio_calls (n d : Int) (w : World) (hn : -1000000000000000000 ≤ n ∧ n ≤ 1000000000000000000) (hd : 0 < d) (hd2 : d ≤ 1000000000000000000) :
    Calls Tryz.prog 110 #[.int .i64 n, .int .i64 d] w fun e w' => e = .returned (R (rn (n * n) d) (rd (n * n) d)) ∧ Below w.heap.size w w' := by
  have l0 : (dg n).length ≤ 900 := by have := dg_of_lt (n := n) (k := 19) (by omega) (by omega); omega
  have ld : (dg d).length ≤ 900 := by have := dg_of_lt (n := d) (k := 19) (by omega) (by omega); omega
  have h1 := fun w => rof_calls n w (by omega) (by omega)
  have h2 := fun w => rtimes_calls n n w l0 l0
  have h3 := fun w => rof_calls d w (by omega) (by omega)
  have hm := Mb.mul_bd (A := 1000000000000000000) (C := 1000000000000000000) hn hn
  have h4 := fun w => rlowest_calls (n * n) d w (sq_nonneg n) hd (by
    generalize n * n = m at *
    have := dg_of_lt (n := m) (k := 37) (by omega) (by omega); omega) ld
  have H := Lib.hid (And.intro h1 (And.intro h2 (And.intro h3 h4)))
  clear h1 h2 h3 h4 l0 ld hm hn hd hd2
  go_enter Tryz.func110, Tryz.ntmps110
  go_wp2_with fail
  refine (H.out.1 _).mono ?_
  rintro e w1 ⟨rfl, hb1⟩
  have B1 := Lib.hid hb1; clear hb1
  go_wp2_with fail
  refine (H.out.2.1 _).mono ?_
  rintro e w2 ⟨rfl, hb2⟩
  have B2 := Lib.hid (below_trans B1.out hb2); clear hb2
  go_wp2_with fail
  refine (H.out.2.2.1 _).mono ?_
  rintro e w3 ⟨rfl, hb3⟩
  have B3 := Lib.hid (below_trans B2.out hb3); clear hb3
  go_wp2_with fail
  refine (H.out.2.2.2 _).mono ?_
  rintro e w4 ⟨rfl, hb4⟩
  have B4 := Lib.hid (below_trans B3.out hb4); clear hb4
  go_wp2_with fail
  go_ret
  exact ⟨rfl, B4.out⟩

theorem far_sw (a b : P2) : far b a = far a b := by simp only [far]; grind

set_option maxHeartbeats 1600000 in
theorem rfromLine_calls (p a b : P2) (w : World) (hp : Bd 100000 p) (ha : Bd 100000 a) (hb : Bd 100000 b) (hab : a ≠ b) :
    Calls Tryz.prog 59 #[V p, V a, V b] w fun e w' => e = .returned (R (rn (crs a b p * crs a b p) (far a b)) (rd (crs a b p * crs a b p) (far a b))) ∧ Below w.heap.size w w' := by
  have t1 := fun w => left_calls a b p w ha hb hp
  have t2 := fun w => rfar_calls a b w ha hb
  have hc := crs_bd ha hb hp
  have hf := far_small ha hb
  have t3 := fun w => rratio_calls (crs a b p) (far a b) w (by omega) (far_pos hab) (by omega)
  rw [far_sw] at t2
  have HT := Lib.hid (And.intro t1 (And.intro t2 t3))
  clear t1 t2 t3 hc hf hp ha hb hab
  obtain ⟨W, hW⟩ : ∃ W, W = ((w.alloc (B2 p 23)).alloc (B2 a 23)).alloc (B2 b 23) := ⟨_, rfl⟩
  have hb0 : Below w.heap.size w W := by rw [hW]; exact below3 _ _ _ _
  have hx := box3 w p a b 23 23 23
  rw [← hW] at hx
  obtain ⟨h1, h2, h3⟩ := hx
  have k1 := cell_regrown h1.1
  have k2 := cell_regrown h1.2
  have k3 := cell_regrown h2.1
  have k4 := cell_regrown h2.2
  have k5 := cell_regrown h3.1
  have k6 := cell_regrown h3.2
  have q1 : ∀ d os, Calls Tryz.prog 111 #[V a, V b, V p] (grow (redrawn W d) os) fun e w'' => e = .returned (.int .i64 (crs a b p)) ∧ ∃ p : Regrown, w'' = grow (redrawn W p.d) p.os := fun d os => Calls.regrown_of (HT.out.1 _)
  have q2 : ∀ d os, Calls Tryz.prog 112 #[V a, V b] (grow (redrawn W d) os) fun e w'' => e = .returned (.int .i64 (far a b)) ∧ ∃ p : Regrown, w'' = grow (redrawn W p.d) p.os := fun d os => Calls.regrown_of (HT.out.2.1 _)
  have q3 : ∀ d os, Calls Tryz.prog 110 #[.int .i64 (crs a b p), .int .i64 (far a b)] (grow (redrawn W d) os) fun e w'' => e = .returned (R (rn (crs a b p * crs a b p) (far a b)) (rd (crs a b p * crs a b p) (far a b))) ∧ ∃ p : Regrown, w'' = grow (redrawn W p.d) p.os := fun d os => Calls.regrown_of (HT.out.2.2 _)
  clear h1 h2 h3
  go_enter Tryz.func59, Tryz.ntmps59
  go_wp2_with fail
  rw [← hW]
  clear hW
  refine wp_region_quiet_below follows (by kernel_rfl) ?_
  repeat (quiet_step (first | with_reducible exact q1 _ _ | with_reducible exact q2 _ _ | with_reducible exact q3 _ _))
  refine wpQuiet_nil ?_
  intro _ hw'
  obtain ⟨⟨dq, osq⟩, hw''⟩ := hw'
  subst hw''
  go_wp2_with fail
  go_ret
  exact ⟨rfl, below_trans hb0 (below_regrown W dq osq)⟩

theorem seg_foot {p a b : P2} (h1 : 0 < dt (sub b a) (sub p a)) (h2 : dt (sub b a) (sub p b) = 0) : segN p a b = far b p ∧ segD p a b = 1 := by
  have hab : a ≠ b := by intro e; subst e; simp [dt, sub] at h1
  have hD := far_pos hab
  have hl := lagr_b p a b
  rw [h2, Int.mul_zero, Int.add_zero] at hl
  have hr := r_of_low (n := crs a b p * crs a b p) (d := far a b) (p := far b p) (q := 1) (by omega) (by omega) (by simp [Int.gcd]) (by rw [hl, Int.mul_one, Int.mul_comm])
  unfold segN segD
  rw [if_neg (by omega), if_neg (by omega), if_neg (by omega), if_neg (by omega)]
  exact hr

/-- the boxes of a walk over three points and their difference -/
theorem box4 (w : World) (p a b d : P2) (t u v x : TypeId) : Bx ((((w.alloc (B2 p t)).alloc (B2 a u)).alloc (B2 b v)).alloc (B2 d x)) w.heap.size p ∧ Bx ((((w.alloc (B2 p t)).alloc (B2 a u)).alloc (B2 b v)).alloc (B2 d x)) (w.heap.size + 1) a ∧ Bx ((((w.alloc (B2 p t)).alloc (B2 a u)).alloc (B2 b v)).alloc (B2 d x)) (w.heap.size + 2) b := by
  have hx := box3 w p a b t u v
  exact ⟨hx.1.to (alloc_below _ _), hx.2.1.to (alloc_below _ _), hx.2.2.to (alloc_below _ _)⟩

set_option maxHeartbeats 6400000 in
theorem rfromSegment_calls (p a b : P2) (w : World) (hp : Bd 100000 p) (ha : Bd 100000 a) (hb : Bd 100000 b) :
    Calls Tryz.prog 61 #[V p, V a, V b] w fun e w' => e = .returned (R (segN p a b) (segD p a b)) ∧ Below w.heap.size w w' := by
  have t1 := fun w => minus_calls b a w (hb.mono (by omega)) (ha.mono (by omega))
  have t2 := fun w => minus_calls p a w (hp.mono (by omega)) (ha.mono (by omega))
  have t3 := fun w => minus_calls p b w (hp.mono (by omega)) (hb.mono (by omega))
  have b1 := (ha.sub hb).mono (show (100000 : Int) + 100000 ≤ 1000000000 by omega)
  have b2 := (ha.sub hp).mono (show (100000 : Int) + 100000 ≤ 1000000000 by omega)
  have b3 := (hb.sub hp).mono (show (100000 : Int) + 100000 ≤ 1000000000 by omega)
  have t4 := fun w => rdt_calls (sub b a) (sub p a) w b1 b2
  have t5 := fun w => rdt_calls (sub b a) (sub p b) w b1 b3
  have t6 := fun w => rfar_calls p a w hp ha
  have t7 := fun w => rfar_calls p b w hp hb
  have f1 := far_small ha hp
  have f2 := far_small hb hp
  have t8 := fun w => rwhole_calls (far a p) w f1.1 (by omega)
  have t9 := fun w => rwhole_calls (far b p) w f2.1 (by omega)
  have t10 := fun hab w => rfromLine_calls p a b w hp ha hb hab
  have hs := seg_cases p a b
  have hf := @seg_foot p a b
  have hdd := dt_dt p a b
  have hfn := far_nonneg a b
  have hR : (dt (sub b a) (sub p a) ≤ 0 → R (segN p a b) (segD p a b) = S (far a p)) ∧ (0 < dt (sub b a) (sub p a) → 0 ≤ dt (sub b a) (sub p b) → R (segN p a b) (segD p a b) = S (far b p)) ∧ (0 < dt (sub b a) (sub p a) → dt (sub b a) (sub p b) < 0 → a ≠ b ∧ R (segN p a b) (segD p a b) = R (rn (crs a b p * crs a b p) (far a b)) (rd (crs a b p * crs a b p) (far a b))) := by
    refine ⟨fun h => ?_, fun h1 h2 => ?_, fun h1 h2 => ⟨?_, ?_⟩⟩
    · rcases hs with ⟨_, e1, e2⟩ | ⟨h3, e1, e2⟩ | ⟨h3, _, e1, e2⟩
      · rw [e1, e2, R_one]
      · omega
      · omega
    · rcases hs with ⟨_, e1, e2⟩ | ⟨h3, e1, e2⟩ | ⟨h3, _, e1, e2⟩
      · omega
      · rw [e1, e2, R_one]
      · have := hf h1 (by omega)
        rw [this.1, this.2, R_one]
    · intro e; subst e; simp [dt, sub] at h1
    · rcases hs with ⟨_, e1, e2⟩ | ⟨h3, e1, e2⟩ | ⟨h3, _, e1, e2⟩
      · omega
      · omega
      · rw [e1, e2]
  clear hs hf b1 b2 b3 f1 f2
  obtain ⟨u, hu⟩ : ∃ u, dt (sub b a) (sub p a) = u := ⟨_, rfl⟩
  obtain ⟨v, hv⟩ : ∃ u, dt (sub b a) (sub p b) = u := ⟨_, rfl⟩
  obtain ⟨rv, hrv⟩ : ∃ u, R (segN p a b) (segD p a b) = u := ⟨_, rfl⟩
  rw [hu] at t4 hR
  rw [hv] at t5 hR
  rw [hrv] at hR ⊢
  have HT := Lib.hid (And.intro t1 (And.intro t2 (And.intro t3 (And.intro t4 (And.intro t5 (And.intro t6 (And.intro t7 (And.intro t8 (And.intro t9 t10)))))))))
  have HR := Lib.hid hR
  clear t1 t2 t3 t4 t5 t6 t7 t8 t9 t10 hR hu hv hrv hdd hfn hp ha hb
  obtain ⟨W, hW⟩ : ∃ W, W = ((w.alloc (B2 p 23)).alloc (B2 a 23)).alloc (B2 b 23) := ⟨_, rfl⟩
  have hb0 : Below w.heap.size w W := by rw [hW]; exact below3 _ _ _ _
  have hx := box3 w p a b 23 23 23
  rw [← hW] at hx
  have HX := Lib.hid (And.intro hx hb0)
  obtain ⟨⟨c1, c2⟩, ⟨c3, c4⟩, c5, c6⟩ := hx
  clear hb0
  go_enter Tryz.func61, Tryz.ntmps61
  go_wp2_with fail
  rw [← hW]
  clear hW
  refine (HT.out.1 _).mono ?_
  rintro e w1 ⟨rfl, hb1⟩
  have n1 := HX.out.1.1.to hb1
  have n2 := HX.out.1.2.1.to hb1
  have n3 := HX.out.1.2.2.to hb1
  have nB := below_trans HX.out.2 hb1
  clear HX c1 c2 c3 c4 c5 c6 hb1
  have HN := Lib.hid (And.intro n1 (And.intro n2 (And.intro n3 nB)))
  clear n1 n2 n3 nB
  go_wp2_with fail
  obtain ⟨W2, hW2⟩ : ∃ W2, W2 = w1.alloc (.cells #[.int .i64 (sub b a).x, .int .i64 (sub b a).y] 23) := ⟨_, rfl⟩
  have hb2 : Below w1.heap.size w1 W2 := by rw [hW2]; exact alloc_below _ _
  have hd : Bx W2 w1.heap.size (sub b a) := by rw [hW2]; exact bx_new _ _ _
  rw [← hW2]
  clear hW2
  have HM := Lib.hid (And.intro (HN.out.1.to hb2) (And.intro (HN.out.2.1.to hb2) (And.intro (HN.out.2.2.1.to hb2) (And.intro hd (below_trans HN.out.2.2.2 hb2)))))
  clear hb2 hd HN
  obtain ⟨⟨c1, c2⟩, ⟨c3, c4⟩, ⟨c5, c6⟩, ⟨c7, c8⟩, -⟩ := HM.out
  have k1 := cell_regrown c1
  have k2 := cell_regrown c2
  have k3 := cell_regrown c3
  have k4 := cell_regrown c4
  have k7 := cell_regrown c7
  have k8 := cell_regrown c8
  clear c1 c2 c3 c4 c5 c6 c7 c8
  have q1 : ∀ d os, Calls Tryz.prog 113 #[V p, V a] (grow (redrawn W2 d) os) fun e w'' => e = .returned (V (sub p a)) ∧ ∃ p : Regrown, w'' = grow (redrawn W2 p.d) p.os := fun d os => Calls.regrown_of (HT.out.2.1 _)
  have q2 : ∀ d os, Calls Tryz.prog 114 #[V (sub b a), V (sub p a)] (grow (redrawn W2 d) os) fun e w'' => e = .returned (.int .i64 u) ∧ ∃ p : Regrown, w'' = grow (redrawn W2 p.d) p.os := fun d os => Calls.regrown_of (HT.out.2.2.2.1 _)
  by_cases hu : u ≤ 0
  · have du : decide (u ≤ 0) = true := decide_eq_true hu
    have hr := HR.out.1 hu
    have HRR := Lib.hid hr
    clear hr
    refine wp_region_quiet_below follows (by kernel_rfl) ?_
    repeat (quiet_step (first | with_reducible exact q1 _ _ | with_reducible exact q2 _ _))
    refine wpQuiet_nil ?_
    intro _ hw'
    obtain ⟨⟨dq, osq⟩, hw''⟩ := hw'
    subst hw''
    have hb3 := below_regrown W2 dq osq
    obtain ⟨W3, hW3⟩ : ∃ W3, W3 = grow (redrawn W2 dq) osq := ⟨_, rfl⟩
    rw [← hW3] at hb3 ⊢
    clear hW3 k1 k2 k3 k4 k7 k8 q1 q2
    obtain ⟨c1, c2⟩ := HM.out.1.to hb3
    obtain ⟨c3, c4⟩ := HM.out.2.1.to hb3
    have HB := Lib.hid (below_trans HM.out.2.2.2.2 hb3)
    clear hb3 hu
    go_wp2_with fail
    refine (HT.out.2.2.2.2.2.1 _).mono ?_
    rintro e w4 ⟨rfl, hb4⟩
    have HB4 := Lib.hid (below_trans HB.out hb4); clear hb4
    go_wp2_with fail
    refine (HT.out.2.2.2.2.2.2.2.1 _).mono ?_
    rintro e w5 ⟨rfl, hb5⟩
    have HB5 := Lib.hid (below_trans HB4.out hb5); clear hb5
    go_wp2_with fail
    go_ret
    exact ⟨congrArg Ending.returned HRR.out.symm, HB5.out⟩
  · have du : decide (u ≤ 0) = false := decide_eq_false hu
    refine wp_region_quiet_below follows (by kernel_rfl) ?_
    repeat (quiet_step (first | with_reducible exact q1 _ _ | with_reducible exact q2 _ _))
    refine wpQuiet_nil ?_
    intro _ hw'
    obtain ⟨⟨dq, osq⟩, hw''⟩ := hw'
    subst hw''
    have hb3 := below_regrown W2 dq osq
    obtain ⟨W3, hW3⟩ : ∃ W3, W3 = grow (redrawn W2 dq) osq := ⟨_, rfl⟩
    rw [← hW3] at hb3 ⊢
    clear hW3 k1 k2 k3 k4 k7 k8 q1 q2
    have HM3 := Lib.hid (And.intro (HM.out.1.to hb3) (And.intro (HM.out.2.1.to hb3) (And.intro (HM.out.2.2.1.to hb3) (And.intro (HM.out.2.2.2.1.to hb3) (below_trans HM.out.2.2.2.2 hb3)))))
    clear hb3 HM
    obtain ⟨⟨c1, c2⟩, ⟨c3, c4⟩, ⟨c5, c6⟩, ⟨c7, c8⟩, -⟩ := HM3.out
    have k1 := cell_regrown c1
    have k2 := cell_regrown c2
    have k5 := cell_regrown c5
    have k6 := cell_regrown c6
    have k7 := cell_regrown c7
    have k8 := cell_regrown c8
    clear c1 c2 c3 c4 c5 c6 c7 c8
    have q1 : ∀ d os, Calls Tryz.prog 113 #[V p, V b] (grow (redrawn W3 d) os) fun e w'' => e = .returned (V (sub p b)) ∧ ∃ p : Regrown, w'' = grow (redrawn W3 p.d) p.os := fun d os => Calls.regrown_of (HT.out.2.2.1 _)
    have q2 : ∀ d os, Calls Tryz.prog 114 #[V (sub b a), V (sub p b)] (grow (redrawn W3 d) os) fun e w'' => e = .returned (.int .i64 v) ∧ ∃ p : Regrown, w'' = grow (redrawn W3 p.d) p.os := fun d os => Calls.regrown_of (HT.out.2.2.2.2.1 _)
    by_cases hv : 0 ≤ v
    · have dv' : decide (0 ≤ v) = true := decide_eq_true hv
      have hr := HR.out.2.1 (by omega) hv
      have HRR := Lib.hid hr
      clear hr
      go_wp2_with fail
      refine wp_region_quiet_below follows (by kernel_rfl) ?_
      repeat (quiet_step (first | with_reducible exact q1 _ _ | with_reducible exact q2 _ _))
      refine wpQuiet_nil ?_
      intro _ hw'
      obtain ⟨⟨dq, osq⟩, hw''⟩ := hw'
      subst hw''
      have hb3 := below_regrown W3 dq osq
      obtain ⟨W4, hW4⟩ : ∃ W4, W4 = grow (redrawn W3 dq) osq := ⟨_, rfl⟩
      rw [← hW4] at hb3 ⊢
      clear hW4 k1 k2 k5 k6 k7 k8 q1 q2
      obtain ⟨c1, c2⟩ := HM3.out.1.to hb3
      obtain ⟨c5, c6⟩ := HM3.out.2.2.1.to hb3
      have HB := Lib.hid (below_trans HM3.out.2.2.2.2 hb3)
      clear hb3 hu hv
      go_wp2_with fail
      refine (HT.out.2.2.2.2.2.2.1 _).mono ?_
      rintro e w4 ⟨rfl, hb4⟩
      have HB4 := Lib.hid (below_trans HB.out hb4); clear hb4
      go_wp2_with fail
      refine (HT.out.2.2.2.2.2.2.2.2.1 _).mono ?_
      rintro e w5 ⟨rfl, hb5⟩
      have HB5 := Lib.hid (below_trans HB4.out hb5); clear hb5
      go_wp2_with fail
      go_ret
      exact ⟨congrArg Ending.returned HRR.out.symm, HB5.out⟩
    · have dv' : decide (0 ≤ v) = false := decide_eq_false hv
      have hr := HR.out.2.2 (by omega) (by omega)
      have HRR := Lib.hid hr
      clear hr
      go_wp2_with fail
      refine wp_region_quiet_below follows (by kernel_rfl) ?_
      repeat (quiet_step (first | with_reducible exact q1 _ _ | with_reducible exact q2 _ _))
      refine wpQuiet_nil ?_
      intro _ hw'
      obtain ⟨⟨dq, osq⟩, hw''⟩ := hw'
      subst hw''
      have hb3 := below_regrown W3 dq osq
      obtain ⟨W4, hW4⟩ : ∃ W4, W4 = grow (redrawn W3 dq) osq := ⟨_, rfl⟩
      rw [← hW4] at hb3 ⊢
      clear hW4 k1 k2 k5 k6 k7 k8 q1 q2
      obtain ⟨c1, c2⟩ := HM3.out.1.to hb3
      obtain ⟨c3, c4⟩ := HM3.out.2.1.to hb3
      obtain ⟨c5, c6⟩ := HM3.out.2.2.1.to hb3
      have HB := Lib.hid (below_trans HM3.out.2.2.2.2 hb3)
      clear hb3 hu hv
      go_wp2_with fail
      refine (HT.out.2.2.2.2.2.2.2.2.2 HRR.out.1 _).mono ?_
      rintro e w4 ⟨rfl, hb4⟩
      have HB4 := Lib.hid (below_trans HB.out hb4); clear hb4
      go_wp2_with fail
      go_ret
      exact ⟨congrArg Ending.returned HRR.out.2.symm, HB4.out⟩

end Go.Proofs.YtgdlfjofefhdoaaGreatDoor
