/- The walk of VectorNearer: it answers true. -/
import Derived.Test.YtgdlfjofefhdoaaGreatDoorNearD
import Derived.Test.YtgdlfjofefhdoaaGreatDoorNear
import Derived.Test.YtgdlfjofefhdoaaGreatDoorAwake
import Derived.Test.YtgdlfjofefhdoaaGreatDoorRefW
namespace Go.Proofs.YtgdlfjofefhdoaaGreatDoor
open Go.RowKit Go.Sort Go.Lib Mb

theorem near_bd9 {p : P2} (h : nearB p = true) : Bd 9000 p := by
  simp only [nearB, nearI, Bool.and_eq_true, decide_eq_true_eq] at h
  exact h
theorem flat_of9 {p : P2} (h : Bd 18000 p) : flatB p = true := by
  obtain ⟨⟨_, _⟩, _, _⟩ := h
  simp only [flatB, inB, Bool.and_eq_true, decide_eq_true_eq]
  omega
theorem far_sym9 (a b : P2) : far b a = far a b := by simp only [far]; grind

abbrev N6 (p a b : P2) : Obj := .cells #[.int .i64 p.x, .int .i64 p.y, .int .i64 a.x, .int .i64 a.y, .int .i64 b.x, .int .i64 b.y] 23
theorem near3 (p a b : P2) (w : World) :
    ((Bx ((((w.alloc (B2 p 23)).alloc (B2 a 23)).alloc (B2 b 23)).alloc (N6 p a b)) w.heap.size p ∧ Bx ((((w.alloc (B2 p 23)).alloc (B2 a 23)).alloc (B2 b 23)).alloc (N6 p a b)) (w.heap.size + 1) a ∧ Bx ((((w.alloc (B2 p 23)).alloc (B2 a 23)).alloc (B2 b 23)).alloc (N6 p a b)) (w.heap.size + 2) b) ∧
      Below w.heap.size w ((((w.alloc (B2 p 23)).alloc (B2 a 23)).alloc (B2 b 23)).alloc (N6 p a b))) ∧
    Calls Tryz.prog 24 #[.slice (some ⟨w.heap.size + 3, 0, none⟩) 3 3] ((((w.alloc (B2 p 23)).alloc (B2 a 23)).alloc (B2 b 23)).alloc (N6 p a b)) fun e w' => e = .returned (.bool ([p, a, b].all nearB)) ∧ Below ((((w.alloc (B2 p 23)).alloc (B2 a 23)).alloc (B2 b 23)).alloc (N6 p a b)).heap.size ((((w.alloc (B2 p 23)).alloc (B2 a 23)).alloc (B2 b 23)).alloc (N6 p a b)) w' := by
  have hx := box3 w p a b 23 23 23
  have hp := pts_new3 (((w.alloc (B2 p 23)).alloc (B2 a 23)).alloc (B2 b 23)) p a b 23
  rw [size_alloc1, size_alloc1, size_alloc1] at hp
  have hal := alloc_below (((w.alloc (B2 p 23)).alloc (B2 a 23)).alloc (B2 b 23)) (N6 p a b)
  exact ⟨⟨⟨hx.1.to hal, hx.2.1.to hal, hx.2.2.to hal⟩, below_trans (below3 w _ _ _) hal⟩, near_calls [p, a, b] _ 0 3 3 rfl _ hp (by simp)⟩

set_option maxRecDepth 100000 in
set_option maxHeartbeats 1600000 in
theorem nearer_far (p a b : P2) (w : World) (hg : Good w) (hn : [p, a, b].all nearB = false) :
    Calls Tryz.prog 5 #[V p, V a, V b] w fun e w' => e = .returned (.bool true) ∧ Below w.heap.size w w' := by
  have hx := box3 w p a b 23 23 23
  obtain ⟨⟨-, hb0⟩, H⟩ := near3 p a b w
  rw [hn] at H
  have HG := Lib.hid (And.intro hg hb0); clear hg hb0 hn
  obtain ⟨⟨c1, c2⟩, ⟨c3, c4⟩, c5, c6⟩ := hx
  go_enter Tryz.func5, Tryz.ntmps5
  go_wp2_with fail
  refine H.mono ?_
  rintro e w1 ⟨rfl, hb1⟩
  clear H c1 c2 c3 c4 c5 c6
  have hb2 := below_trans HG.out.2 hb1
  go_wp2_with fail
  refine (awake_calls _ (HG.out.1.to hb2)).mono ?_
  rintro e w2 ⟨rfl, hb3⟩
  go_wp2_with fail
  go_ret
  exact ⟨rfl, below_trans hb2 hb3⟩

set_option maxRecDepth 100000 in
set_option maxHeartbeats 1600000 in
theorem nearer_same (p a b : P2) (w : World) (hg : Good w) (hn : [p, a, b].all nearB = true) (hab : a = b) :
    Calls Tryz.prog 5 #[V p, V a, V b] w fun e w' => e = .returned (.bool true) ∧ Below w.heap.size w w' := by
  have hbe : (a.x == b.x && a.y == b.y) = true := by rw [hab]; simp
  have heq := fun w => eqPoint 9998 w a.x a.y b.x b.y
  rw [hbe] at heq
  simp only [Nat.reduceAdd] at heq
  clear hab hbe
  have hx := box3 w p a b 23 23 23
  obtain ⟨⟨hx4, hb0⟩, H⟩ := near3 p a b w
  rw [hn] at H
  have HX := Lib.hid hx4
  have HG := Lib.hid (And.intro hg hb0); clear hg hb0 hn hx4
  obtain ⟨⟨c1, c2⟩, ⟨c3, c4⟩, c5, c6⟩ := hx
  go_enter Tryz.func5, Tryz.ntmps5
  go_wp2_with fail
  refine H.mono ?_
  rintro e w1 ⟨rfl, hb1⟩
  clear H c1 c2 c3 c4 c5 c6
  have hb2 := below_trans HG.out.2 hb1
  obtain ⟨c3, c4⟩ := HX.out.2.1.to hb1
  obtain ⟨c5, c6⟩ := HX.out.2.2.to hb1
  go_wp2_with fail
  refine (awake_calls _ (HG.out.1.to hb2)).mono ?_
  rintro e w2 ⟨rfl, hb3⟩
  go_wp2_with fail
  go_ret
  exact ⟨rfl, below_trans hb2 hb3⟩

set_option maxRecDepth 100000 in
set_option maxHeartbeats 6400000 in
theorem nearer_main (p a b : P2) (w : World) (hg : Good w) (hn : [p, a, b].all nearB = true) (hab : a ≠ b) :
    Calls Tryz.prog 5 #[V p, V a, V b] w fun e w' => e = .returned (.bool true) ∧ Below w.heap.size w w' := by
  have hbe : (a.x == b.x && a.y == b.y) = false := by
    rw [Bool.and_eq_false_iff, beq_eq_false_iff_ne, beq_eq_false_iff_ne]
    by_cases h : a.x = b.x
    · right; intro h2; apply hab; obtain ⟨_, _⟩ := a; obtain ⟨_, _⟩ := b; simp_all
    · left; exact h
  have heq := fun w => eqPoint 9998 w a.x a.y b.x b.y
  rw [hbe] at heq
  simp only [Nat.reduceAdd] at heq
  clear hbe
  have hb3 : Bd 9000 p ∧ Bd 9000 a ∧ Bd 9000 b := by
    simp at hn
    exact ⟨near_bd9 hn.1, near_bd9 hn.2.1, near_bd9 hn.2.2⟩
  obtain ⟨hbp, hba, hbb⟩ := hb3
  have fp := flat_of9 (hbp.mono (show (9000 : Int) ≤ 18000 by omega))
  have fa := flat_of9 (hba.mono (show (9000 : Int) ≤ 18000 by omega))
  have fb := flat_of9 (hbb.mono (show (9000 : Int) ≤ 18000 by omega))
  have t1 : ∀ w, Good w → _ := fun w hg => toLine_any p a b w hg fp fa fb hab
  have t2 : ∀ w, Good w → _ := fun w hg => seg_calls p a b w hg fp fa fb
  have t3 : ∀ w, _ := fun w => Square_ok p a w fp fa
  have t4 : ∀ w, _ := fun w => Square_ok p b w fp fb
  have fs : ∀ {u v : P2}, Bd 9000 u → Bd 9000 v → flatB ⟨v.x - u.x, v.y - u.y⟩ = true := fun hu hv => flat_of9 ((hu.sub hv).mono (by omega))
  have t5 : ∀ w, _ := fun w => Dot_ok ⟨b.x - a.x, b.y - a.y⟩ ⟨p.x - a.x, p.y - a.y⟩ w (fs hba hbb) (fs hba hbp)
  have t6 : ∀ w, _ := fun w => Dot_ok ⟨a.x - b.x, a.y - b.y⟩ ⟨p.x - b.x, p.y - b.y⟩ w (fs hbb hba) (fs hbb hbp)
  have r1 := rat2_line (bd_flat fp) (bd_flat fa) (bd_flat fb) hab
  have r2 := rat2_seg (bd_flat fp) (bd_flat fa) (bd_flat fb)
  have g1 := line_bd (bd_flat fp) (bd_flat fa) (bd_flat fb) hab
  have g2 := seg_bd (bd_flat fp) (bd_flat fa) (bd_flat fb)
  have g3 := far_small (bd_flat fp) (bd_flat fa)
  have g4 := far_small (bd_flat fp) (bd_flat fb)
  have l1 := nearer_1 (p := p) hab
  have l2 := nearer_2 (p := p) hab
  have l3 := nearer_3 (p := p) hab
  rw [far_sym9 p a, far_sym9 p b] at l2
  have hu : dt ⟨b.x - a.x, b.y - a.y⟩ ⟨p.x - a.x, p.y - a.y⟩ = dt (sub b a) (sub p a) := rfl
  have hv : dt ⟨a.x - b.x, a.y - b.y⟩ ⟨p.x - b.x, p.y - b.y⟩ = dt (sub a b) (sub p b) := rfl
  rw [← hu, ← hv] at l3
  clear hu hv
  obtain ⟨xn, hxn⟩ : ∃ x, rn (crs a b p * crs a b p) (far a b) = x := ⟨_, rfl⟩
  obtain ⟨xd, hxd⟩ : ∃ x, rd (crs a b p * crs a b p) (far a b) = x := ⟨_, rfl⟩
  obtain ⟨yn, hyn⟩ : ∃ x, segN p a b = x := ⟨_, rfl⟩
  obtain ⟨yd, hyd⟩ : ∃ x, segD p a b = x := ⟨_, rfl⟩
  obtain ⟨m, hm⟩ : ∃ x, far p a = x := ⟨_, rfl⟩
  obtain ⟨n, hn'⟩ : ∃ x, far p b = x := ⟨_, rfl⟩
  obtain ⟨u, hu⟩ : ∃ x, dt ⟨b.x - a.x, b.y - a.y⟩ ⟨p.x - a.x, p.y - a.y⟩ = x := ⟨_, rfl⟩
  obtain ⟨v, hv⟩ : ∃ x, dt ⟨a.x - b.x, a.y - b.y⟩ ⟨p.x - b.x, p.y - b.y⟩ = x := ⟨_, rfl⟩
  simp only [hxn, hxd, hyn, hyd, hm, hn', hu, hv] at t1 t2 t3 t4 t5 t6 r1 r2 g1 g2 g3 g4 l1 l2 l3
  clear hxn hxd hyn hyd hm hn' hu hv fs fp fa fb
  have len : ∀ {z : Int}, -1000000000000000000000000000000000000 ≤ z → z ≤ 1000000000000000000000000000000000000 → (dg z).length ≤ 1024 := fun {z} h1 h2 => by
    have := dg_of_lt (n := z) (k := 37) (by omega) (by omega); omega
  have mulb : ∀ {s t : Int}, 0 ≤ s → s ≤ 10000000000000000000000 → 0 ≤ t → t ≤ 80000000000 → (dg (s * t)).length ≤ 1024 := fun {s t} h1 h2 h3 h4 => by
    have := Mb.mul_bd (A := 10000000000000000000000) (C := 80000000000) (a := s) (b := t) (by omega) (by omega)
    exact len (by omega) (by omega)
  have hmn : 0 ≤ min m n ∧ min m n ≤ 80000000000 := by omega
  have r3 : Rat2 (min m n) 1 := rat2_one (len (by omega) (by omega))
  have t7 : ∀ w, Good w → _ := fun w hg => rcompare_calls xn xd yn yd w hg r1 r2 (mulb (by omega) (by omega) (by omega) (by omega)) (mulb (by omega) (by omega) (by omega) (by omega))
  have t8 : ∀ w, _ := fun w => rwhole_calls (min m n) w hmn.1 (by omega)
  have t9 : ∀ w, Good w → _ := fun w hg => rcompare_calls yn yd (min m n) 1 w hg r2 r3 (mulb (by omega) (by omega) (by omega) (by omega)) (mulb (by omega) (by omega) (by omega) (by omega))
  have l4 : cmp3 (yn * 1) (min m n * yd) ≤ 0 := by
    refine cmp3_le ?_
    rw [Int.mul_one]
    rcases Int.le_total m n with h | h
    · rw [Int.min_eq_left h]; exact l2.1
    · rw [Int.min_eq_right h]; exact l2.2
  have b1 := cmp3_bd (xn * yd) (yn * xd)
  have b2 := cmp3_bd (yn * 1) (min m n * yd)
  obtain ⟨o1, ho1⟩ : ∃ x, cmp3 (xn * yd) (yn * xd) = x := ⟨_, rfl⟩
  obtain ⟨o2, ho2⟩ : ∃ x, cmp3 (yn * 1) (min m n * yd) = x := ⟨_, rfl⟩
  simp only [ho1, ho2, R_one] at t7 t9 l1 l3 l4 b1 b2
  have HT := Lib.hid (And.intro t1 (And.intro t2 (And.intro t3 (And.intro t4 (And.intro t5 (And.intro t6 (And.intro t7 (And.intro t8 t9))))))))
  have HL := Lib.hid (And.intro l1 (And.intro l3 (And.intro l4 (And.intro b1 b2))))
  have HB := Lib.hid (And.intro hbp (And.intro hba hbb))
  clear t1 t2 t3 t4 t5 t6 t7 t8 t9 l1 l2 l3 l4 b1 b2 ho1 ho2 r1 r2 r3 g1 g2 g3 g4 hmn len mulb hbp hba hbb hab
  have hx := box3 w p a b 23 23 23
  obtain ⟨⟨hx4, hb0⟩, H⟩ := near3 p a b w
  rw [hn] at H
  have HX := Lib.hid hx4
  have HG := Lib.hid (And.intro hg hb0); clear hg hb0 hn hx4
  obtain ⟨⟨c1, c2⟩, ⟨c3, c4⟩, c5, c6⟩ := hx
  go_enter Tryz.func5, Tryz.ntmps5
  go_wp2_with fail
  refine H.mono ?_
  rintro e w1 ⟨rfl, hb⟩
  clear H c1 c2 c3 c4 c5 c6
  have H1 := Lib.hid (And.intro (below_trans HG.out.2 hb) (And.intro (HX.out.1.to hb) (And.intro (HX.out.2.1.to hb) (HX.out.2.2.to hb)))); clear hb
  obtain ⟨-, ⟨c1, c2⟩, ⟨c3, c4⟩, c5, c6⟩ := H1.out
  go_wp2_with fail
  clear heq
  refine (HT.out.1 _ (HG.out.1.to H1.out.1)).mono ?_
  rintro e w2 ⟨rfl, hb⟩
  clear c1 c2 c3 c4 c5 c6
  have H2 := Lib.hid (And.intro (below_trans H1.out.1 hb) (And.intro (H1.out.2.1.to hb) (And.intro (H1.out.2.2.1.to hb) (H1.out.2.2.2.to hb)))); clear hb H1
  obtain ⟨-, ⟨c1, c2⟩, ⟨c3, c4⟩, c5, c6⟩ := H2.out
  go_wp2_with fail
  refine (HT.out.2.1 _ (HG.out.1.to H2.out.1)).mono ?_
  rintro e w3 ⟨rfl, hb⟩
  clear c1 c2 c3 c4 c5 c6
  have H3 := Lib.hid (And.intro (below_trans H2.out.1 hb) (And.intro (H2.out.2.1.to hb) (And.intro (H2.out.2.2.1.to hb) (H2.out.2.2.2.to hb)))); clear hb H2
  obtain ⟨-, ⟨c1, c2⟩, ⟨c3, c4⟩, c5, c6⟩ := H3.out
  go_wp2_with fail
  refine (HT.out.2.2.1 _).mono ?_
  rintro e w4 ⟨rfl, hb⟩
  clear c1 c2 c3 c4 c5 c6
  have H4 := Lib.hid (And.intro (below_trans H3.out.1 hb) (And.intro (H3.out.2.1.to hb) (And.intro (H3.out.2.2.1.to hb) (H3.out.2.2.2.to hb)))); clear hb H3
  obtain ⟨-, ⟨c1, c2⟩, ⟨c3, c4⟩, c5, c6⟩ := H4.out
  go_wp2_with fail
  refine (HT.out.2.2.2.1 _).mono ?_
  rintro e w5 ⟨rfl, hb⟩
  clear c1 c2 c3 c4 c5 c6
  have H5 := Lib.hid (And.intro (below_trans H4.out.1 hb) (And.intro (H4.out.2.1.to hb) (And.intro (H4.out.2.2.1.to hb) (H4.out.2.2.2.to hb)))); clear hb H4
  obtain ⟨-, ⟨c1, c2⟩, ⟨c3, c4⟩, c5, c6⟩ := H5.out
  have k1 := cell_regrown c1
  have k2 := cell_regrown c2
  have k3 := cell_regrown c3
  have k4 := cell_regrown c4
  have k5 := cell_regrown c5
  have k6 := cell_regrown c6
  obtain ⟨⟨⟨p1, p2⟩, p3, p4⟩, ⟨⟨a1, a2⟩, a3, a4⟩, ⟨b1, b2⟩, b3, b4⟩ := HB.out
  have s1 : IntKind.i64.wrap (b.x - a.x) = b.x - a.x := IntWalk.i64_in _ (by omega)
  have s2 : IntKind.i64.wrap (b.y - a.y) = b.y - a.y := IntWalk.i64_in _ (by omega)
  have s3 : IntKind.i64.wrap (p.x - a.x) = p.x - a.x := IntWalk.i64_in _ (by omega)
  have s4 : IntKind.i64.wrap (p.y - a.y) = p.y - a.y := IntWalk.i64_in _ (by omega)
  have s5 : IntKind.i64.wrap (a.x - b.x) = a.x - b.x := IntWalk.i64_in _ (by omega)
  have s6 : IntKind.i64.wrap (a.y - b.y) = a.y - b.y := IntWalk.i64_in _ (by omega)
  have s7 : IntKind.i64.wrap (p.x - b.x) = p.x - b.x := IntWalk.i64_in _ (by omega)
  have s8 : IntKind.i64.wrap (p.y - b.y) = p.y - b.y := IntWalk.i64_in _ (by omega)
  clear c1 c2 c3 c4 c5 c6 p1 p2 p3 p4 a1 a2 a3 a4 b1 b2 b3 b4
  have q0 : ∀ x y d os, Calls Tryz.prog 27 #[.int .i64 x, .int .i64 y] (grow (redrawn w5 d) os) fun e w'' => e = .returned (V ⟨x, y⟩) ∧ ∃ p : Regrown, w'' = grow (redrawn w5 p.d) p.os := fun x y d os => Calls.regrown_of (at_calls x y _)
  have q1 : ∀ d os, Calls Tryz.prog 26 #[V ⟨b.x - a.x, b.y - a.y⟩, V ⟨p.x - a.x, p.y - a.y⟩] (grow (redrawn w5 d) os) fun e w'' => e = .returned (.tuple #[.int .i64 u, .int .i64 0]) ∧ ∃ p : Regrown, w'' = grow (redrawn w5 p.d) p.os := fun d os => Calls.regrown_of (HT.out.2.2.2.2.1 _)
  go_wp2_with fail
  refine wp_region_quiet_below follows (by kernel_rfl) ?_
  repeat (quiet_step (first | with_reducible exact q0 _ _ _ _ | with_reducible exact q1 _ _))
  refine wpQuiet_nil ?_
  intro _ hw'
  obtain ⟨⟨dq, osq⟩, hw''⟩ := hw'
  subst hw''
  have hb := below_regrown w5 dq osq
  obtain ⟨w6, hw6⟩ : ∃ w6, w6 = grow (redrawn w5 dq) osq := ⟨_, rfl⟩
  rw [← hw6] at hb ⊢
  have H6 := Lib.hid (And.intro (below_trans H5.out.1 hb) (And.intro (H5.out.2.1.to hb) (And.intro (H5.out.2.2.1.to hb) (H5.out.2.2.2.to hb)))); clear hb hw6 H5 k1 k2 k3 k4 k5 k6 q0 q1
  obtain ⟨-, ⟨c1, c2⟩, ⟨c3, c4⟩, c5, c6⟩ := H6.out
  have k1 := cell_regrown c1
  have k2 := cell_regrown c2
  have k3 := cell_regrown c3
  have k4 := cell_regrown c4
  have k5 := cell_regrown c5
  have k6 := cell_regrown c6
  clear c1 c2 c3 c4 c5 c6
  have q0 : ∀ x y d os, Calls Tryz.prog 27 #[.int .i64 x, .int .i64 y] (grow (redrawn w6 d) os) fun e w'' => e = .returned (V ⟨x, y⟩) ∧ ∃ p : Regrown, w'' = grow (redrawn w6 p.d) p.os := fun x y d os => Calls.regrown_of (at_calls x y _)
  have q1 : ∀ d os, Calls Tryz.prog 26 #[V ⟨a.x - b.x, a.y - b.y⟩, V ⟨p.x - b.x, p.y - b.y⟩] (grow (redrawn w6 d) os) fun e w'' => e = .returned (.tuple #[.int .i64 v, .int .i64 0]) ∧ ∃ p : Regrown, w'' = grow (redrawn w6 p.d) p.os := fun d os => Calls.regrown_of (HT.out.2.2.2.2.2.1 _)
  go_wp2_with fail
  refine wp_region_quiet_below follows (by kernel_rfl) ?_
  repeat (quiet_step (first | with_reducible exact q0 _ _ _ _ | with_reducible exact q1 _ _))
  refine wpQuiet_nil ?_
  intro _ hw'
  obtain ⟨⟨dq2, osq2⟩, hw''⟩ := hw'
  subst hw''
  have hb := below_regrown w6 dq2 osq2
  obtain ⟨w7, hw7⟩ : ∃ w7, w7 = grow (redrawn w6 dq2) osq2 := ⟨_, rfl⟩
  rw [← hw7] at hb ⊢
  have H7 := Lib.hid (below_trans H6.out.1 hb); clear hb hw7 H6 k1 k2 k3 k4 k5 k6 q0 q1 s1 s2 s3 s4 s5 s6 s7 s8
  go_wp2_with fail
  refine (HT.out.2.2.2.2.2.2.1 _ (HG.out.1.to H7.out)).mono ?_
  rintro e w8 ⟨rfl, hb⟩
  have H8 := Lib.hid (below_trans H7.out hb); clear hb H7
  go_wp2_with fail
  refine (HT.out.2.2.2.2.2.2.2.1 _).mono ?_
  rintro e w9 ⟨rfl, hb⟩
  have H9 := Lib.hid (below_trans H8.out hb); clear hb H8
  go_wp2_with fail
  refine (HT.out.2.2.2.2.2.2.2.2 _ (HG.out.1.to H9.out)).mono ?_
  rintro e w10 ⟨rfl, hb⟩
  have H10 := Lib.hid (below_trans H9.out hb); clear hb H9
  have HW := awake_calls w10 (HG.out.1.to H10.out)
  have d1 : decide (o1 ≤ 0) = true := decide_eq_true HL.out.1
  have d2 : decide (o2 ≤ 0) = true := decide_eq_true HL.out.2.2.1
  by_cases hu : u < 0
  · have d3 : decide (u < 0) = true := decide_eq_true hu
    clear hu
    go_wp2_with fail
    refine HW.mono ?_
    rintro e w11 ⟨rfl, hb⟩
    clear HW
    go_wp2_with fail
    go_ret
    exact ⟨rfl, below_trans H10.out hb⟩
  · have d3 : decide (u < 0) = false := decide_eq_false hu
    by_cases hv : v < 0
    · have d4 : decide (v < 0) = true := decide_eq_true hv
      clear hu hv
      go_wp2_with fail
      refine HW.mono ?_
      rintro e w11 ⟨rfl, hb⟩
      clear HW
      go_wp2_with fail
      go_ret
      exact ⟨rfl, below_trans H10.out hb⟩
    · have d4 : decide (v < 0) = false := decide_eq_false hv
      have d5 : (o1 == 0) = true := by rw [beq_iff_eq]; exact HL.out.2.1 (by omega) (by omega)
      clear hu hv
      go_wp2_with fail
      refine HW.mono ?_
      rintro e w11 ⟨rfl, hb⟩
      clear HW
      go_wp2_with fail
      go_ret
      exact ⟨rfl, below_trans H10.out hb⟩

theorem nearer_calls (p a b : P2) (w : World) (hg : Good w) :
    Calls Tryz.prog 5 #[V p, V a, V b] w fun e w' => e = .returned (.bool true) ∧ Below w.heap.size w w' := by
  cases hn : [p, a, b].all nearB with
  | false => exact nearer_far p a b w hg hn
  | true =>
    by_cases hab : a = b
    · exact nearer_same p a b w hg hn hab
    · exact nearer_main p a b w hg hn hab

end Go.Proofs.YtgdlfjofefhdoaaGreatDoor
