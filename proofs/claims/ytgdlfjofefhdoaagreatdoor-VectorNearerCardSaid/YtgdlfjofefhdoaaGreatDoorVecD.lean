/- Package vector: squared, ToLine, ToSegment (over what the integers' operations do). -/
import Derived.Test.YtgdlfjofefhdoaaGreatDoorEqP
namespace Go.Proofs.YtgdlfjofefhdoaaGreatDoor
open Go.RowKit Go.Sort Go.Lib Mb

/-- what 'squared' asks of the integers' operations -/
structure SqOps (n d : Int) : Prop where
  mul : ∀ w, Good w → Calls Tryz.prog 73 #[S n, S n] w fun e w' => e = .returned (.tuple #[S (n * n), .int .i64 0]) ∧ Below w.heap.size w w'
  low : LowOps (n * n) d
  l1 : (dg (n * n)).length ≤ 1024
  l2 : (dg d).length ≤ 1024
  bn : -9223372036854775808 ≤ n ∧ n ≤ 9223372036854775807

/-- a square divided by a number, as a text -/
abbrev Q (n d : Int) : Value := R (rn (n * n) d) (rd (n * n) d)

theorem sqOps_short {n d : Int} (hn : -31000 ≤ n ∧ n ≤ 31000) (hd : 0 < d) (hd9 : d < 1000000000) : SqOps n d := by
  have hm := Mb.mul_bd (A := 31000) (C := 31000) hn hn
  have h0 : 0 ≤ n * n := by
    rcases Int.le_total 0 n with h | h
    · exact Int.mul_nonneg h h
    · exact Int.mul_nonneg_of_nonpos_of_nonpos h h
  have l1 := itoa_le (n := n * n) (k := 9) (by omega) h0 (by omega)
  have l2 := itoa_le (n := d) (k := 9) (by omega) (by omega) (by omega)
  have ln : (itoa n).length ≤ 9 := by
    by_cases h : n < 0
    · rw [itoa_neg h, List.length_cons]
      have := (decDigits_len_le (u := n.natAbs) (k := 5) (by omega)).2 (by omega)
      omega
    · exact itoa_le (by omega) (by omega) (by omega)
  exact ⟨fun w hg => mul_short n n w hg ln ln, lowOps_short _ _ h0 (by omega) hd hd9, by have := dg_le_itoa (n * n); omega, by have := dg_le_itoa d; omega, by omega⟩

set_option maxHeartbeats 400000 in
theorem squared_calls (n d : Int) (w : World) (hg : Good w) (ho : SqOps n d) :
    Calls Tryz.prog 54 #[.int .i64 n, S d] w fun e w' => e = .returned (.tuple #[Q n d, .int .i64 0]) ∧ Below w.heap.size w w' := by
  go_enter Tryz.func54, Tryz.ntmps54
  go_wp2_with fail
  refine (of_calls n _ hg ho.bn.1 ho.bn.2).mono ?_
  rintro e w1 ⟨rfl, hb1⟩
  go_wp2_with fail
  refine (ho.mul _ (hg.to hb1)).mono ?_
  rintro e w2 ⟨rfl, hb2⟩
  go_wp2_with fail
  refine (make_calls _ _ _ (hg.to (below_trans hb1 hb2)) ho.low ho.l1 ho.l2).mono ?_
  rintro e w3 ⟨rfl, hb3⟩
  go_wp2_with fail
  go_ret2
  exact ⟨rfl, below_trans (below_trans hb1 hb2) hb3⟩

theorem far_def (a p : P2) : dt (sub p a) (sub p a) = far a p := rfl
theorem far_small {a p : P2} (ha : Bd 100000 a) (hp : Bd 100000 p) : 0 ≤ far a p ∧ far a p ≤ 80000000000 := by
  obtain ⟨⟨_, _⟩, _, _⟩ := ha; obtain ⟨⟨_, _⟩, _, _⟩ := hp
  have h1 := Mb.mul_bd (A := 200000) (C := 200000) (a := p.x - a.x) (b := p.x - a.x) (by omega) (by omega)
  have h2 := Mb.mul_bd (A := 200000) (C := 200000) (a := p.y - a.y) (b := p.y - a.y) (by omega) (by omega)
  have sq : ∀ t : Int, 0 ≤ t * t := fun t => by
    rcases Int.le_total 0 t with h | h
    · exact Int.mul_nonneg h h
    · exact Int.mul_nonneg_of_nonpos_of_nonpos h h
  have := sq (p.x - a.x); have := sq (p.y - a.y)
  unfold far; omega

set_option maxHeartbeats 1600000 in
theorem ToLine_ok (p a b : P2) (w : World) (hg : Good w) (hp : flatB p = true) (ha : flatB a = true) (hb : flatB b = true) (hab : a ≠ b) (ho : SqOps (crs a b p) (far a b)) :
    Calls Tryz.prog 11 #[V p, V a, V b] w fun e w' => e = .returned (.tuple #[Q (crs a b p) (far a b), .int .i64 0]) ∧ Below w.heap.size w w' := by
  have hbe : (a.x == b.x && a.y == b.y) = false := by
    rw [Bool.and_eq_false_iff, beq_eq_false_iff_ne, beq_eq_false_iff_ne]
    by_cases h : a.x = b.x
    · right; intro h2; apply hab; obtain ⟨_, _⟩ := a; obtain ⟨_, _⟩ := b; simp_all
    · left; exact h
  clear hab
  have heq := fun w => eqPoint 9998 w a.x a.y b.x b.y
  rw [hbe] at heq
  simp only [Nat.reduceAdd] at heq
  have he : errOf [p, a, b] = 0 := err_ok (by simp [ha, hb, hp])
  have hx := box3 w p a b 23 23 23
  have hpt := pts_new3 (((w.alloc (B2 p 23)).alloc (B2 a 23)).alloc (B2 b 23)) p a b 23
  rw [size_alloc1, size_alloc1, size_alloc1] at hpt
  have HX := Lib.hid (And.intro hx hpt); clear hx hpt
  have HE := Lib.hid he; clear he
  have HF := Lib.hid (far_small (bd_flat ha) (bd_flat hb))
  have HA := Lib.hid (And.intro (bd_flat hp) (And.intro (bd_flat ha) (bd_flat hb))); clear ha hb hp
  go_enter Tryz.func11, Tryz.ntmps11
  go_wp2_with fail
  refine (allP_is [p, a, b] 0 HE.out _ 0 _ 3 rfl _ HX.out.2 (by simp)).mono ?_
  rintro e w1 ⟨rfl, hb1⟩
  have hb0 := below_trans (below_trans (below3 w _ _ _) (alloc_below _ _)) hb1
  have h1 := (HX.out.1.1.to (alloc_below _ _)).to hb1
  have h2 := (HX.out.1.2.1.to (alloc_below _ _)).to hb1
  have h3 := (HX.out.1.2.2.to (alloc_below _ _)).to hb1
  clear HX hb1
  have HH := Lib.hid (And.intro h1 (And.intro h2 h3))
  obtain ⟨k1, k2⟩ := h1
  obtain ⟨k3, k4⟩ := h2
  obtain ⟨k5, k6⟩ := h3
  go_wp2_with fail
  refine (to_calls a b _ (HA.out.2.1.mono (by omega)) (HA.out.2.2.mono (by omega))).mono ?_
  rintro e w2 ⟨rfl, hb2⟩
  clear heq hbe
  have hs := (HA.out.2.1.sub HA.out.2.2).mono (show (100000 : Int) + 100000 ≤ 1000000000 by omega)
  have HS := Lib.hid hs; clear hs
  go_wp2_with fail
  obtain ⟨W, hW⟩ : ∃ W, W = w2.alloc (.cells #[.int .i64 (sub b a).x, .int .i64 (sub b a).y] 91) := ⟨_, rfl⟩
  rw [← hW]
  have hbW : Below w1.heap.size w1 W := by rw [hW]; exact below_trans hb2 (alloc_below _ _)
  have hv : Bx W w2.heap.size (sub b a) := by rw [hW]; exact bx_new _ _ _
  have hgW : Good W := hg.to (below_trans hb0 hbW)
  have g1 := HH.out.1.to hbW
  have g2 := HH.out.2.1.to hbW
  have g3 := HH.out.2.2.to hbW
  clear k1 k2 k3 k4 k5 k6 hW
  have m1 := cell_regrown g1.1
  have m2 := cell_regrown g1.2
  have m3 := cell_regrown g2.1
  have m4 := cell_regrown g2.2
  have m5 := cell_regrown g3.1
  have m6 := cell_regrown g3.2
  have m7 := cell_regrown hv.1
  have m8 := cell_regrown hv.2
  have HO := Lib.hid (And.intro ho hgW)
  have q1 : ∀ d os, Calls Tryz.prog 55 #[V a, V b, V p] (grow (redrawn W d) os) fun e w'' => e = .returned (.int .i64 (crs a b p)) ∧ ∃ p : Regrown, w'' = grow (redrawn W p.d) p.os := fun d os => Calls.regrown_of (cross_calls a b p _ (HA.out.2.1.mono (by omega)) (HA.out.2.2.mono (by omega)) (HA.out.1.mono (by omega)))
  have q2 : ∀ d os, Calls Tryz.prog 57 #[V (sub b a), V (sub b a)] (grow (redrawn W d) os) fun e w'' => e = .returned (.int .i64 (far a b)) ∧ ∃ p : Regrown, w'' = grow (redrawn W p.d) p.os := fun d os => Calls.regrown_of (dot_calls _ _ _ HS.out HS.out)
  have q3 : ∀ d os, Calls Tryz.prog 56 #[.int .i64 (far a b)] (grow (redrawn W d) os) fun e w'' => e = .returned (S (far a b)) ∧ ∃ p : Regrown, w'' = grow (redrawn W p.d) p.os := fun d os => Calls.regrown_of (of_calls _ _ (HO.out.2.to (below_regrown W d os)) (by have := HF.out; omega) (by have := HF.out; omega))
  have q4 : ∀ d os, Calls Tryz.prog 54 #[.int .i64 (crs a b p), S (far a b)] (grow (redrawn W d) os) fun e w'' => e = .returned (.tuple #[Q (crs a b p) (far a b), .int .i64 0]) ∧ ∃ p : Regrown, w'' = grow (redrawn W p.d) p.os := fun d os => Calls.regrown_of (squared_calls _ _ _ (HO.out.2.to (below_regrown W d os)) HO.out.1)
  clear g1 g2 g3 hv hg ho hgW HH
  refine wp_region_quiet_below follows (by kernel_rfl) ?_
  repeat (quiet_step (first | with_reducible exact q1 _ _ | with_reducible exact q2 _ _ | with_reducible exact q3 _ _ | with_reducible exact q4 _ _))
  refine wpQuiet_nil ?_
  intro _ hw'
  obtain ⟨⟨dq, osq⟩, hw''⟩ := hw'
  subst hw''
  go_wp2_with fail
  go_ret2
  exact ⟨rfl, below_trans (below_trans hb0 hbW) (below_regrown W dq osq)⟩

theorem Bx.below {w w' : World} {b B : Nat} {p : P2} (h : Bx w b p) (hb : Below B w w') (hB : b < B) : Bx w' b p := ⟨(hb.cell (p := ⟨b, 0, none⟩) hB).trans h.1, (hb.cell (p := ⟨b, 1, none⟩) hB).trans h.2⟩
theorem Bx.lt {w : World} {b : Nat} {p : P2} (h : Bx w b p) : b < w.heap.size := World.block_lt_of_cell? _ _ h.1
set_option maxHeartbeats 3200000 in
/-- the foot lies behind b -/
theorem ToSegment_b (p a b : P2) (w : World) (hg : Good w) (hp : flatB p = true) (ha : flatB a = true) (hb : flatB b = true) (h1 : 0 < dt (sub b a) (sub p b)) (h2 : 0 < dt (sub b a) (sub p a)) :
    Calls Tryz.prog 13 #[V p, V a, V b] w fun e w' => e = .returned (.tuple #[S (far b p), .int .i64 0]) ∧ Below w.heap.size w w' := by
  have hd : decide (dt (sub b a) (sub p a) ≤ 0) = false := decide_eq_false (by omega)
  clear h2
  have hgt : 0 < dt (sub b a) (sub p b) := h1
  clear h1
  have he : errOf [p, a, b] = 0 := err_ok (by simp [ha, hb, hp])
  have hx := box3 w p a b 23 23 23
  have hpt := pts_new3 (((w.alloc (B2 p 23)).alloc (B2 a 23)).alloc (B2 b 23)) p a b 23
  rw [size_alloc1, size_alloc1, size_alloc1] at hpt
  have HX := Lib.hid (And.intro hx hpt); clear hx hpt
  have HE := Lib.hid he; clear he
  have HA := Lib.hid (And.intro (bd_flat hp) (And.intro (bd_flat ha) (bd_flat hb))); clear ha hb hp
  have HG := Lib.hid hg; clear hg
  go_enter Tryz.func13, Tryz.ntmps13
  go_wp2_with fail
  refine (allP_is [p, a, b] 0 HE.out _ 0 _ 3 rfl _ HX.out.2 (by simp)).mono ?_
  rintro e w1 ⟨rfl, hb1⟩
  have hb0 := below_trans (below_trans (below3 w _ _ _) (alloc_below _ _)) hb1
  have h1 := (HX.out.1.1.to (alloc_below _ _)).to hb1
  have h2 := (HX.out.1.2.1.to (alloc_below _ _)).to hb1
  have h3 := (HX.out.1.2.2.to (alloc_below _ _)).to hb1
  clear HX hb1
  have HH := Lib.hid (And.intro h1 (And.intro h2 h3))
  obtain ⟨k1, k2⟩ := h1
  obtain ⟨k3, k4⟩ := h2
  obtain ⟨k5, k6⟩ := h3
  go_wp2_with fail
  refine (to_calls a b _ (HA.out.2.1.mono (by omega)) (HA.out.2.2.mono (by omega))).mono ?_
  rintro e w2 ⟨rfl, hb2⟩
  have hs := (HA.out.2.1.sub HA.out.2.2).mono (show (100000 : Int) + 100000 ≤ 1000000000 by omega)
  have hs2 := (HA.out.2.1.sub HA.out.1).mono (show (100000 : Int) + 100000 ≤ 1000000000 by omega)
  have hs3 := (HA.out.2.2.sub HA.out.1).mono (show (100000 : Int) + 100000 ≤ 1000000000 by omega)
  have HS := Lib.hid (And.intro hs (And.intro hs2 hs3)); clear hs hs2 hs3
  have n3 := cell_to k3 hb2
  have n4 := cell_to k4 hb2
  have hz : w.heap.size + 1 < w2.heap.size := World.block_lt_of_cell? _ _ n3
  clear k1 k2 k3 k4 k5 k6
  go_wp2_with fail
  obtain ⟨W, hW⟩ : ∃ W, W = (w2.alloc (.cells #[.int .i64 (sub b a).x, .int .i64 (sub b a).y] 91)).alloc (.cells #[.int .i64 a.x, .int .i64 a.y] 23) := ⟨_, rfl⟩
  rw [← hW]
  have hbW : Below w1.heap.size w1 W := by rw [hW]; exact below_trans hb2 (below2 _ _ _)
  have hv := box2 w2 (sub b a) a 91 23
  rw [← hW] at hv
  have hnb := blk_new1 w2 (B2 (sub b a) 91) #[.int .i64 a.x, .int .i64 a.y] 23
  rw [← hW] at hnb
  have hsz : w1.heap.size ≤ w2.heap.size ∧ w.heap.size + 2 < w1.heap.size := ⟨hb2.size, HH.out.2.2.lt⟩
  have HB := Lib.hid (And.intro hnb hsz); clear hnb hsz
  clear hW hb2 n3 n4 hz
  have g1 := HH.out.1.to hbW
  have g2 := HH.out.2.1.to hbW
  have g3 := HH.out.2.2.to hbW
  clear HH
  have HV := Lib.hid (And.intro hv.1 (And.intro g1 (And.intro g2 g3)))
  have m1 := cell_regrown g1.1
  have m2 := cell_regrown g1.2
  have m5 := cell_regrown g3.1
  have m6 := cell_regrown g3.2
  have m7 := cell_regrown hv.1.1
  have m8 := cell_regrown hv.1.2
  have q1 : ∀ d os, Calls Tryz.prog 53 #[V b, V p] (grow (redrawn W d) os) fun e w'' => e = .returned (V (sub p b)) ∧ ∃ p : Regrown, w'' = grow (redrawn W p.d) p.os := fun d os => Calls.regrown_of (to_calls b p _ (HA.out.2.2.mono (by omega)) (HA.out.1.mono (by omega)))
  have q2 : ∀ d os, Calls Tryz.prog 57 #[V (sub b a), V (sub p b)] (grow (redrawn W d) os) fun e w'' => e = .returned (.int .i64 (dt (sub b a) (sub p b))) ∧ ∃ p : Regrown, w'' = grow (redrawn W p.d) p.os := fun d os => Calls.regrown_of (dot_calls _ _ _ HS.out.1 HS.out.2.2)
  clear g1 g2 g3 hv
  refine wp_region_quiet_below follows (by kernel_rfl) ?_
  repeat (quiet_step (first | with_reducible exact q1 _ _ | with_reducible exact q2 _ _))
  refine wpQuiet_nil ?_
  intro _ hw'
  obtain ⟨⟨dq, osq⟩, hw''⟩ := hw'
  subst hw''
  clear q1 q2 m1 m2 m5 m6 m7 m8
  obtain ⟨W1, hW1⟩ : ∃ W1, W1 = grow (redrawn W dq) osq := ⟨_, rfl⟩
  rw [← hW1]
  have hbW1 : Below W.heap.size W W1 := by rw [hW1]; exact below_regrown W dq osq
  clear hW1
  have hnb := HB.out.1.to hbW1
  have n0 : W1.cell? ⟨w2.heap.size + 1, 0, none⟩ = some (.int .i64 a.x) := hnb.c 0 _ rfl
  have n1 : W1.cell? ⟨w2.heap.size + 1, 1, none⟩ = some (.int .i64 a.y) := hnb.c 1 _ rfl
  have f0 := hnb.free 0
  have f1 := hnb.free 1
  have l3 := HV.out.2.2.2.to hbW1
  obtain ⟨l5, l6⟩ := l3
  have HN := Lib.hid hnb; clear hnb
  go_wp2_with fail
  clear n0 n1 f0 f1 l5 l6
  obtain ⟨W2, hW2⟩ : ∃ W2, W2 = (W1.setCell ⟨w2.heap.size + 1, 0, none⟩ (.int .i64 b.x)).setCell ⟨w2.heap.size + 1, 1, none⟩ (.int .i64 b.y) := ⟨_, rfl⟩
  rw [← hW2]
  have hn2 : Bx W2 (w2.heap.size + 1) b := by rw [hW2]; exact ⟨((HN.out.set 0 _).set 1 _).c 0 _ rfl, ((HN.out.set 0 _).set 1 _).c 1 _ rfl⟩
  have hbN : Below (w2.heap.size + 1) W W2 := by
    rw [hW2]
    exact ((hbW1.mono (Nat.le_of_lt HB.out.1.lt)).setCell (p := ⟨w2.heap.size + 1, 0, none⟩) (Nat.le_refl _) _).setCell (p := ⟨w2.heap.size + 1, 1, none⟩) (Nat.le_refl _) _
  clear hW2
  have hz1 := HB.out.2
  have hz2 := HV.out.1.lt
  have t1 := HV.out.1.below hbN (by omega)
  have t2 := HV.out.2.1.below hbN (by omega)
  have t3 := HV.out.2.2.1.below hbN (by omega)
  have t4 := HV.out.2.2.2.below hbN (by omega)
  have hb2 : Below w.heap.size w W2 := (below_trans hb0 hbW).trans (hbN.mono (by omega))
  have H2 := Lib.hid (And.intro hb2 (And.intro hn2 (And.intro t1 (And.intro t2 (And.intro t3 t4)))))
  clear hb2 hn2 t1 t2 t3 t4 hz1 hz2 hbN
  have v1 := cell_regrown H2.out.2.2.1.1
  have v2 := cell_regrown H2.out.2.2.1.2
  have v3 := cell_regrown H2.out.2.2.2.1.1
  have v4 := cell_regrown H2.out.2.2.2.1.2
  have v5 := cell_regrown H2.out.2.2.2.2.1.1
  have v6 := cell_regrown H2.out.2.2.2.2.1.2
  have v7 := cell_regrown H2.out.2.2.2.2.2.1
  have v8 := cell_regrown H2.out.2.2.2.2.2.2
  have v9 := cell_regrown H2.out.2.1.1
  have v10 := cell_regrown H2.out.2.1.2
  have q1 : ∀ d os, Calls Tryz.prog 53 #[V a, V p] (grow (redrawn W2 d) os) fun e w'' => e = .returned (V (sub p a)) ∧ ∃ p : Regrown, w'' = grow (redrawn W2 p.d) p.os := fun d os => Calls.regrown_of (to_calls a p _ (HA.out.2.1.mono (by omega)) (HA.out.1.mono (by omega)))
  have q2 : ∀ d os, Calls Tryz.prog 57 #[V (sub b a), V (sub p a)] (grow (redrawn W2 d) os) fun e w'' => e = .returned (.int .i64 (dt (sub b a) (sub p a))) ∧ ∃ p : Regrown, w'' = grow (redrawn W2 p.d) p.os := fun d os => Calls.regrown_of (dot_calls _ _ _ HS.out.1 HS.out.2.1)
  refine wp_region_quiet_below follows (by kernel_rfl) ?_
  repeat (quiet_step (first | with_reducible exact q1 _ _ | with_reducible exact q2 _ _))
  refine wpQuiet_nil ?_
  intro _ hw'
  obtain ⟨⟨dq, osq⟩, hw''⟩ := hw'
  subst hw''
  clear q1 q2 v1 v2 v3 v4 v5 v6 v7 v8 v9 v10
  obtain ⟨W3, hW3⟩ : ∃ W3, W3 = grow (redrawn W2 dq) osq := ⟨_, rfl⟩
  rw [← hW3]
  have hbW3 : Below W2.heap.size W2 W3 := by rw [hW3]; exact below_regrown W2 dq osq
  clear hW3
  have r1 := H2.out.2.1.to hbW3
  have r2 := H2.out.2.2.2.1.to hbW3
  have hb03 := below_trans H2.out.1 hbW3
  have hg3 : Good W3 := HG.out.to hb03
  obtain ⟨u1, u2⟩ := r1
  obtain ⟨u3, u4⟩ := r2
  have HB3 := Lib.hid hb03; clear hb03
  clear hbW3 H2
  go_wp2_with fail
  refine (to_calls b p _ (HA.out.2.2.mono (by omega)) (HA.out.1.mono (by omega))).mono ?_
  rintro e w4 ⟨rfl, hb4⟩
  clear u1 u2 u3 u4
  go_wp2_with fail
  refine (dot_calls _ _ _ HS.out.2.2 HS.out.2.2).mono ?_
  rintro e w5 ⟨rfl, hb5⟩
  have hb6 := below_trans (below_trans hb4 (alloc_below _ _)) hb5
  rw [far_def]
  have hf := far_small HA.out.2.2 HA.out.1
  go_wp2_with fail
  refine (whole_calls _ _ (hg3.to hb6) (by omega) (by omega)).mono ?_
  rintro e w7 ⟨rfl, hb7⟩
  go_wp2_with fail
  go_ret2
  exact ⟨rfl, below_trans (below_trans HB3.out hb6) hb7⟩

set_option maxHeartbeats 3200000 in
/-- the foot lies before a -/
theorem ToSegment_a (p a b : P2) (w : World) (hg : Good w) (hp : flatB p = true) (ha : flatB a = true) (hb : flatB b = true) (h1 : dt (sub b a) (sub p b) ≤ 0) (h2 : dt (sub b a) (sub p a) ≤ 0) :
    Calls Tryz.prog 13 #[V p, V a, V b] w fun e w' => e = .returned (.tuple #[S (far a p), .int .i64 0]) ∧ Below w.heap.size w w' := by
  have hd : decide (dt (sub b a) (sub p a) ≤ 0) = true := decide_eq_true (by omega)
  clear h2
  have hgt : dt (sub b a) (sub p b) ≤ 0 := h1
  clear h1
  have he : errOf [p, a, b] = 0 := err_ok (by simp [ha, hb, hp])
  have hx := box3 w p a b 23 23 23
  have hpt := pts_new3 (((w.alloc (B2 p 23)).alloc (B2 a 23)).alloc (B2 b 23)) p a b 23
  rw [size_alloc1, size_alloc1, size_alloc1] at hpt
  have HX := Lib.hid (And.intro hx hpt); clear hx hpt
  have HE := Lib.hid he; clear he
  have HA := Lib.hid (And.intro (bd_flat hp) (And.intro (bd_flat ha) (bd_flat hb))); clear ha hb hp
  have HG := Lib.hid hg; clear hg
  go_enter Tryz.func13, Tryz.ntmps13
  go_wp2_with fail
  refine (allP_is [p, a, b] 0 HE.out _ 0 _ 3 rfl _ HX.out.2 (by simp)).mono ?_
  rintro e w1 ⟨rfl, hb1⟩
  have hb0 := below_trans (below_trans (below3 w _ _ _) (alloc_below _ _)) hb1
  have h1 := (HX.out.1.1.to (alloc_below _ _)).to hb1
  have h2 := (HX.out.1.2.1.to (alloc_below _ _)).to hb1
  have h3 := (HX.out.1.2.2.to (alloc_below _ _)).to hb1
  clear HX hb1
  have HH := Lib.hid (And.intro h1 (And.intro h2 h3))
  obtain ⟨k1, k2⟩ := h1
  obtain ⟨k3, k4⟩ := h2
  obtain ⟨k5, k6⟩ := h3
  go_wp2_with fail
  refine (to_calls a b _ (HA.out.2.1.mono (by omega)) (HA.out.2.2.mono (by omega))).mono ?_
  rintro e w2 ⟨rfl, hb2⟩
  have hs := (HA.out.2.1.sub HA.out.2.2).mono (show (100000 : Int) + 100000 ≤ 1000000000 by omega)
  have hs2 := (HA.out.2.1.sub HA.out.1).mono (show (100000 : Int) + 100000 ≤ 1000000000 by omega)
  have hs3 := (HA.out.2.2.sub HA.out.1).mono (show (100000 : Int) + 100000 ≤ 1000000000 by omega)
  have HS := Lib.hid (And.intro hs (And.intro hs2 hs3)); clear hs hs2 hs3
  have n3 := cell_to k3 hb2
  have n4 := cell_to k4 hb2
  have hz : w.heap.size + 1 < w2.heap.size := World.block_lt_of_cell? _ _ n3
  clear k1 k2 k3 k4 k5 k6
  go_wp2_with fail
  obtain ⟨W, hW⟩ : ∃ W, W = (w2.alloc (.cells #[.int .i64 (sub b a).x, .int .i64 (sub b a).y] 91)).alloc (.cells #[.int .i64 a.x, .int .i64 a.y] 23) := ⟨_, rfl⟩
  rw [← hW]
  have hbW : Below w1.heap.size w1 W := by rw [hW]; exact below_trans hb2 (below2 _ _ _)
  have hv := box2 w2 (sub b a) a 91 23
  rw [← hW] at hv
  have hnb := blk_new1 w2 (B2 (sub b a) 91) #[.int .i64 a.x, .int .i64 a.y] 23
  rw [← hW] at hnb
  have hsz : w1.heap.size ≤ w2.heap.size ∧ w.heap.size + 2 < w1.heap.size := ⟨hb2.size, HH.out.2.2.lt⟩
  have HB := Lib.hid (And.intro hnb hsz); clear hnb hsz
  clear hW hb2 n3 n4 hz
  have g1 := HH.out.1.to hbW
  have g2 := HH.out.2.1.to hbW
  have g3 := HH.out.2.2.to hbW
  clear HH
  have HV := Lib.hid (And.intro hv.1 (And.intro g1 (And.intro g2 g3)))
  have m1 := cell_regrown g1.1
  have m2 := cell_regrown g1.2
  have m5 := cell_regrown g3.1
  have m6 := cell_regrown g3.2
  have m7 := cell_regrown hv.1.1
  have m8 := cell_regrown hv.1.2
  have q1 : ∀ d os, Calls Tryz.prog 53 #[V b, V p] (grow (redrawn W d) os) fun e w'' => e = .returned (V (sub p b)) ∧ ∃ p : Regrown, w'' = grow (redrawn W p.d) p.os := fun d os => Calls.regrown_of (to_calls b p _ (HA.out.2.2.mono (by omega)) (HA.out.1.mono (by omega)))
  have q2 : ∀ d os, Calls Tryz.prog 57 #[V (sub b a), V (sub p b)] (grow (redrawn W d) os) fun e w'' => e = .returned (.int .i64 (dt (sub b a) (sub p b))) ∧ ∃ p : Regrown, w'' = grow (redrawn W p.d) p.os := fun d os => Calls.regrown_of (dot_calls _ _ _ HS.out.1 HS.out.2.2)
  clear g1 g2 g3 hv
  refine wp_region_quiet_below follows (by kernel_rfl) ?_
  repeat (quiet_step (first | with_reducible exact q1 _ _ | with_reducible exact q2 _ _))
  refine wpQuiet_nil ?_
  intro _ hw'
  obtain ⟨⟨dq, osq⟩, hw''⟩ := hw'
  subst hw''
  clear q1 q2 m1 m2 m5 m6 m7 m8
  obtain ⟨W1, hW1⟩ : ∃ W1, W1 = grow (redrawn W dq) osq := ⟨_, rfl⟩
  rw [← hW1]
  have hbW1 : Below W.heap.size W W1 := by rw [hW1]; exact below_regrown W dq osq
  clear hW1
  have hnb := HB.out.1.to hbW1
  go_wp2_with fail
  obtain ⟨W2, hW2⟩ : ∃ W2, W2 = W1 := ⟨_, rfl⟩
  rw [← hW2]
  have hn2 : Bx W2 (w2.heap.size + 1) a := by rw [hW2]; exact ⟨hnb.c 0 _ rfl, hnb.c 1 _ rfl⟩
  have hbN : Below W.heap.size W W2 := by rw [hW2]; exact hbW1
  clear hW2 hnb
  have hz1 := HB.out.2
  have hz2 := HV.out.1.lt
  have t1 := HV.out.1.below hbN (by have := HB.out.1.lt; omega)
  have t2 := HV.out.2.1.below hbN (by have := HB.out.1.lt; omega)
  have t3 := HV.out.2.2.1.below hbN (by have := HB.out.1.lt; omega)
  have t4 := HV.out.2.2.2.below hbN (by have := HB.out.1.lt; omega)
  have hb2 : Below w.heap.size w W2 := (below_trans hb0 hbW).trans (hbN.mono (by have := (below_trans hb0 hbW).size; omega))
  have H2 := Lib.hid (And.intro hb2 (And.intro hn2 (And.intro t1 (And.intro t2 (And.intro t3 t4)))))
  clear hb2 hn2 t1 t2 t3 t4 hz1 hz2 hbN
  have v1 := cell_regrown H2.out.2.2.1.1
  have v2 := cell_regrown H2.out.2.2.1.2
  have v3 := cell_regrown H2.out.2.2.2.1.1
  have v4 := cell_regrown H2.out.2.2.2.1.2
  have v5 := cell_regrown H2.out.2.2.2.2.1.1
  have v6 := cell_regrown H2.out.2.2.2.2.1.2
  have v7 := cell_regrown H2.out.2.2.2.2.2.1
  have v8 := cell_regrown H2.out.2.2.2.2.2.2
  have v9 := cell_regrown H2.out.2.1.1
  have v10 := cell_regrown H2.out.2.1.2
  have q1 : ∀ d os, Calls Tryz.prog 53 #[V a, V p] (grow (redrawn W2 d) os) fun e w'' => e = .returned (V (sub p a)) ∧ ∃ p : Regrown, w'' = grow (redrawn W2 p.d) p.os := fun d os => Calls.regrown_of (to_calls a p _ (HA.out.2.1.mono (by omega)) (HA.out.1.mono (by omega)))
  have q2 : ∀ d os, Calls Tryz.prog 57 #[V (sub b a), V (sub p a)] (grow (redrawn W2 d) os) fun e w'' => e = .returned (.int .i64 (dt (sub b a) (sub p a))) ∧ ∃ p : Regrown, w'' = grow (redrawn W2 p.d) p.os := fun d os => Calls.regrown_of (dot_calls _ _ _ HS.out.1 HS.out.2.1)
  refine wp_region_quiet_below follows (by kernel_rfl) ?_
  repeat (quiet_step (first | with_reducible exact q1 _ _ | with_reducible exact q2 _ _))
  refine wpQuiet_nil ?_
  intro _ hw'
  obtain ⟨⟨dq, osq⟩, hw''⟩ := hw'
  subst hw''
  clear q1 q2 v1 v2 v3 v4 v5 v6 v7 v8 v9 v10
  obtain ⟨W3, hW3⟩ : ∃ W3, W3 = grow (redrawn W2 dq) osq := ⟨_, rfl⟩
  rw [← hW3]
  have hbW3 : Below W2.heap.size W2 W3 := by rw [hW3]; exact below_regrown W2 dq osq
  clear hW3
  have r1 := H2.out.2.1.to hbW3
  have r2 := H2.out.2.2.2.1.to hbW3
  have hb03 := below_trans H2.out.1 hbW3
  have hg3 : Good W3 := HG.out.to hb03
  obtain ⟨u1, u2⟩ := r1
  obtain ⟨u3, u4⟩ := r2
  have HB3 := Lib.hid hb03; clear hb03
  clear hbW3 H2
  go_wp2_with fail
  refine (to_calls a p _ (HA.out.2.1.mono (by omega)) (HA.out.1.mono (by omega))).mono ?_
  rintro e w4 ⟨rfl, hb4⟩
  clear u1 u2 u3 u4
  go_wp2_with fail
  refine (dot_calls _ _ _ HS.out.2.1 HS.out.2.1).mono ?_
  rintro e w5 ⟨rfl, hb5⟩
  have hb6 := below_trans (below_trans hb4 (alloc_below _ _)) hb5
  rw [far_def]
  have hf := far_small HA.out.2.1 HA.out.1
  go_wp2_with fail
  refine (whole_calls _ _ (hg3.to hb6) (by omega) (by omega)).mono ?_
  rintro e w7 ⟨rfl, hb7⟩
  go_wp2_with fail
  go_ret2
  exact ⟨rfl, below_trans (below_trans HB3.out hb6) hb7⟩

set_option maxHeartbeats 3200000 in
/-- the foot lies between -/
theorem ToSegment_l (p a b : P2) (w : World) (hg : Good w) (hp : flatB p = true) (ha : flatB a = true) (hb : flatB b = true) (h1 : dt (sub b a) (sub p b) ≤ 0) (h2 : 0 < dt (sub b a) (sub p a)) (hab : a ≠ b) (ho : SqOps (crs a b p) (far a b)) :
    Calls Tryz.prog 13 #[V p, V a, V b] w fun e w' => e = .returned (.tuple #[Q (crs a b p) (far a b), .int .i64 0]) ∧ Below w.heap.size w w' := by
  have hd : decide (dt (sub b a) (sub p a) ≤ 0) = false := decide_eq_false (by omega)
  clear h2
  have hgt : dt (sub b a) (sub p b) ≤ 0 := h1
  clear h1
  have hbe : (a.x == b.x && a.y == b.y) = false := by
    rw [Bool.and_eq_false_iff, beq_eq_false_iff_ne, beq_eq_false_iff_ne]
    by_cases h : a.x = b.x
    · right; intro h2; apply hab; obtain ⟨_, _⟩ := a; obtain ⟨_, _⟩ := b; simp_all
    · left; exact h
  have heq := fun w => eqPoint 9998 w a.x a.y b.x b.y
  rw [hbe] at heq
  simp only [Nat.reduceAdd] at heq
  have HT := Lib.hid (And.intro hp (And.intro ha (And.intro hb (And.intro hab ho))))
  clear hab ho hbe
  have he : errOf [p, a, b] = 0 := err_ok (by simp [ha, hb, hp])
  have hx := box3 w p a b 23 23 23
  have hpt := pts_new3 (((w.alloc (B2 p 23)).alloc (B2 a 23)).alloc (B2 b 23)) p a b 23
  rw [size_alloc1, size_alloc1, size_alloc1] at hpt
  have HX := Lib.hid (And.intro hx hpt); clear hx hpt
  have HE := Lib.hid he; clear he
  have HA := Lib.hid (And.intro (bd_flat hp) (And.intro (bd_flat ha) (bd_flat hb))); clear ha hb hp
  have HG := Lib.hid hg; clear hg
  go_enter Tryz.func13, Tryz.ntmps13
  go_wp2_with fail
  refine (allP_is [p, a, b] 0 HE.out _ 0 _ 3 rfl _ HX.out.2 (by simp)).mono ?_
  rintro e w1 ⟨rfl, hb1⟩
  have hb0 := below_trans (below_trans (below3 w _ _ _) (alloc_below _ _)) hb1
  have h1 := (HX.out.1.1.to (alloc_below _ _)).to hb1
  have h2 := (HX.out.1.2.1.to (alloc_below _ _)).to hb1
  have h3 := (HX.out.1.2.2.to (alloc_below _ _)).to hb1
  clear HX hb1
  have HH := Lib.hid (And.intro h1 (And.intro h2 h3))
  obtain ⟨k1, k2⟩ := h1
  obtain ⟨k3, k4⟩ := h2
  obtain ⟨k5, k6⟩ := h3
  go_wp2_with fail
  refine (to_calls a b _ (HA.out.2.1.mono (by omega)) (HA.out.2.2.mono (by omega))).mono ?_
  rintro e w2 ⟨rfl, hb2⟩
  have hs := (HA.out.2.1.sub HA.out.2.2).mono (show (100000 : Int) + 100000 ≤ 1000000000 by omega)
  have hs2 := (HA.out.2.1.sub HA.out.1).mono (show (100000 : Int) + 100000 ≤ 1000000000 by omega)
  have hs3 := (HA.out.2.2.sub HA.out.1).mono (show (100000 : Int) + 100000 ≤ 1000000000 by omega)
  have HS := Lib.hid (And.intro hs (And.intro hs2 hs3)); clear hs hs2 hs3
  have n3 := cell_to k3 hb2
  have n4 := cell_to k4 hb2
  have hz : w.heap.size + 1 < w2.heap.size := World.block_lt_of_cell? _ _ n3
  clear k1 k2 k3 k4 k5 k6
  go_wp2_with fail
  obtain ⟨W, hW⟩ : ∃ W, W = (w2.alloc (.cells #[.int .i64 (sub b a).x, .int .i64 (sub b a).y] 91)).alloc (.cells #[.int .i64 a.x, .int .i64 a.y] 23) := ⟨_, rfl⟩
  rw [← hW]
  have hbW : Below w1.heap.size w1 W := by rw [hW]; exact below_trans hb2 (below2 _ _ _)
  have hv := box2 w2 (sub b a) a 91 23
  rw [← hW] at hv
  have hnb := blk_new1 w2 (B2 (sub b a) 91) #[.int .i64 a.x, .int .i64 a.y] 23
  rw [← hW] at hnb
  have hsz : w1.heap.size ≤ w2.heap.size ∧ w.heap.size + 2 < w1.heap.size := ⟨hb2.size, HH.out.2.2.lt⟩
  have HB := Lib.hid (And.intro hnb hsz); clear hnb hsz
  clear hW hb2 n3 n4 hz
  have g1 := HH.out.1.to hbW
  have g2 := HH.out.2.1.to hbW
  have g3 := HH.out.2.2.to hbW
  clear HH
  have HV := Lib.hid (And.intro hv.1 (And.intro g1 (And.intro g2 g3)))
  have m1 := cell_regrown g1.1
  have m2 := cell_regrown g1.2
  have m5 := cell_regrown g3.1
  have m6 := cell_regrown g3.2
  have m7 := cell_regrown hv.1.1
  have m8 := cell_regrown hv.1.2
  have q1 : ∀ d os, Calls Tryz.prog 53 #[V b, V p] (grow (redrawn W d) os) fun e w'' => e = .returned (V (sub p b)) ∧ ∃ p : Regrown, w'' = grow (redrawn W p.d) p.os := fun d os => Calls.regrown_of (to_calls b p _ (HA.out.2.2.mono (by omega)) (HA.out.1.mono (by omega)))
  have q2 : ∀ d os, Calls Tryz.prog 57 #[V (sub b a), V (sub p b)] (grow (redrawn W d) os) fun e w'' => e = .returned (.int .i64 (dt (sub b a) (sub p b))) ∧ ∃ p : Regrown, w'' = grow (redrawn W p.d) p.os := fun d os => Calls.regrown_of (dot_calls _ _ _ HS.out.1 HS.out.2.2)
  clear g1 g2 g3 hv
  refine wp_region_quiet_below follows (by kernel_rfl) ?_
  repeat (quiet_step (first | with_reducible exact q1 _ _ | with_reducible exact q2 _ _))
  refine wpQuiet_nil ?_
  intro _ hw'
  obtain ⟨⟨dq, osq⟩, hw''⟩ := hw'
  subst hw''
  clear q1 q2 m1 m2 m5 m6 m7 m8
  obtain ⟨W1, hW1⟩ : ∃ W1, W1 = grow (redrawn W dq) osq := ⟨_, rfl⟩
  rw [← hW1]
  have hbW1 : Below W.heap.size W W1 := by rw [hW1]; exact below_regrown W dq osq
  clear hW1
  have hnb := HB.out.1.to hbW1
  go_wp2_with fail
  obtain ⟨W2, hW2⟩ : ∃ W2, W2 = W1 := ⟨_, rfl⟩
  rw [← hW2]
  have hn2 : Bx W2 (w2.heap.size + 1) a := by rw [hW2]; exact ⟨hnb.c 0 _ rfl, hnb.c 1 _ rfl⟩
  have hbN : Below W.heap.size W W2 := by rw [hW2]; exact hbW1
  clear hW2 hnb
  have hz1 := HB.out.2
  have hz2 := HV.out.1.lt
  have t1 := HV.out.1.below hbN (by have := HB.out.1.lt; omega)
  have t2 := HV.out.2.1.below hbN (by have := HB.out.1.lt; omega)
  have t3 := HV.out.2.2.1.below hbN (by have := HB.out.1.lt; omega)
  have t4 := HV.out.2.2.2.below hbN (by have := HB.out.1.lt; omega)
  have hb2 : Below w.heap.size w W2 := (below_trans hb0 hbW).trans (hbN.mono (by have := (below_trans hb0 hbW).size; omega))
  have H2 := Lib.hid (And.intro hb2 (And.intro hn2 (And.intro t1 (And.intro t2 (And.intro t3 t4)))))
  clear hb2 hn2 t1 t2 t3 t4 hz1 hz2 hbN
  have v1 := cell_regrown H2.out.2.2.1.1
  have v2 := cell_regrown H2.out.2.2.1.2
  have v3 := cell_regrown H2.out.2.2.2.1.1
  have v4 := cell_regrown H2.out.2.2.2.1.2
  have v5 := cell_regrown H2.out.2.2.2.2.1.1
  have v6 := cell_regrown H2.out.2.2.2.2.1.2
  have v7 := cell_regrown H2.out.2.2.2.2.2.1
  have v8 := cell_regrown H2.out.2.2.2.2.2.2
  have v9 := cell_regrown H2.out.2.1.1
  have v10 := cell_regrown H2.out.2.1.2
  have q1 : ∀ d os, Calls Tryz.prog 53 #[V a, V p] (grow (redrawn W2 d) os) fun e w'' => e = .returned (V (sub p a)) ∧ ∃ p : Regrown, w'' = grow (redrawn W2 p.d) p.os := fun d os => Calls.regrown_of (to_calls a p _ (HA.out.2.1.mono (by omega)) (HA.out.1.mono (by omega)))
  have q2 : ∀ d os, Calls Tryz.prog 57 #[V (sub b a), V (sub p a)] (grow (redrawn W2 d) os) fun e w'' => e = .returned (.int .i64 (dt (sub b a) (sub p a))) ∧ ∃ p : Regrown, w'' = grow (redrawn W2 p.d) p.os := fun d os => Calls.regrown_of (dot_calls _ _ _ HS.out.1 HS.out.2.1)
  refine wp_region_quiet_below follows (by kernel_rfl) ?_
  repeat (quiet_step (first | with_reducible exact q1 _ _ | with_reducible exact q2 _ _))
  refine wpQuiet_nil ?_
  intro _ hw'
  obtain ⟨⟨dq, osq⟩, hw''⟩ := hw'
  subst hw''
  clear q1 q2 v1 v2 v3 v4 v5 v6 v7 v8 v9 v10
  obtain ⟨W3, hW3⟩ : ∃ W3, W3 = grow (redrawn W2 dq) osq := ⟨_, rfl⟩
  rw [← hW3]
  have hbW3 : Below W2.heap.size W2 W3 := by rw [hW3]; exact below_regrown W2 dq osq
  clear hW3
  have r1 := H2.out.2.2.2.1.to hbW3
  have r2 := H2.out.2.2.2.2.1.to hbW3
  have r3 := H2.out.2.2.2.2.2.to hbW3
  have hb03 := below_trans H2.out.1 hbW3
  have hg3 : Good W3 := HG.out.to hb03
  obtain ⟨u1, u2⟩ := r1
  obtain ⟨u3, u4⟩ := r2
  obtain ⟨u5, u6⟩ := r3
  have HB3 := Lib.hid hb03; clear hb03
  clear hbW3 H2 heq
  go_wp2_with fail
  refine (ToLine_ok p a b _ hg3 HT.out.1 HT.out.2.1 HT.out.2.2.1 HT.out.2.2.2.1 HT.out.2.2.2.2).mono ?_
  rintro e w4 ⟨rfl, hb4⟩
  go_wp2_with fail
  go_ret2
  exact ⟨rfl, below_trans HB3.out hb4⟩

end Go.Proofs.YtgdlfjofefhdoaaGreatDoor
