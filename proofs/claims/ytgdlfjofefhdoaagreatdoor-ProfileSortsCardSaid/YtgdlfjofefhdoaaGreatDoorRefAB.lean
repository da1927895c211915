/- The reference of layer 7: points in the plane. The reference of layer 7: Dot, Cross, Side, Square. -/
import Derived.Test.YtgdlfjofefhdoaaGreatDoorVecSp
namespace Go.Proofs.YtgdlfjofefhdoaaGreatDoor
open Go.RowKit Go.Sort Go.Lib Mb

theorem rin_calls (n : Int) (w : World) :
    Calls Tryz.prog 116 #[.int .i64 n] w fun e w' => e = .returned (.bool (inB n)) ∧ w = w' := by
  by_cases h1 : -100000 ≤ n
  · by_cases h2 : n ≤ 100000
    · go_enter Tryz.func116, Tryz.ntmps116
      go_wp2
      go_ret
      exact ⟨ret_b (decide_eq_true ⟨h1, h2⟩).symm, rfl⟩
    · go_enter Tryz.func116, Tryz.ntmps116
      go_wp2
      go_ret
      exact ⟨ret_b (decide_eq_false (by omega)).symm, rfl⟩
  · go_enter Tryz.func116, Tryz.ntmps116
    go_wp2
    go_ret
    exact ⟨ret_b (decide_eq_false (by omega)).symm, rfl⟩

theorem right_calls (p : P2) (w : World) :
    Calls Tryz.prog 87 #[V p] w fun e w' => e = .returned (.bool (flatB p)) ∧ Below w.heap.size w w' := by
  obtain ⟨x, y⟩ := p
  cases h1 : inB x with
  | true =>
    go_enter Tryz.func87, Tryz.ntmps87
    go_wp2_with (go_at_call 116; refine (rin_calls _ _).mono ?_; rintro e w' ⟨rfl, rfl⟩)
    go_ret
    exact ⟨ret_b (by simp [flatB, h1]), alloc_below _ _⟩
  | false =>
    go_enter Tryz.func87, Tryz.ntmps87
    go_wp2_with (go_at_call 116; refine (rin_calls _ _).mono ?_; rintro e w' ⟨rfl, rfl⟩)
    go_ret
    exact ⟨ret_b (by simp [flatB, h1]), alloc_below _ _⟩

set_option maxHeartbeats 1600000 in
theorem three_calls (a b c : P2) (w : World) :
    Calls Tryz.prog 58 #[V a, V b, V c] w fun e w' => e = .returned (.int .i64 (errOf [a, b, c])) ∧ Below w.heap.size w w' := by
  have hx := box3 w a b c 23 23 23
  have hb0 := below3 w (B2 a 23) (B2 b 23) (B2 c 23)
  have HX := Lib.hid hx; clear hx
  cases h1 : flatB a with
  | false =>
    go_enter Tryz.func58, Tryz.ntmps58
    go_wp2_with fail
    refine (right_calls a _).mono ?_
    rintro e w1 ⟨rfl, hb1⟩
    rw [h1]
    replace hb0 := below_trans hb0 hb1
    go_wp2_with fail
    go_ret
    exact ⟨ret_i (by simp [errOf, h1]), hb0⟩
  | true =>
    cases h2 : flatB b with
    | false =>
      go_enter Tryz.func58, Tryz.ntmps58
      go_wp2_with fail
      refine (right_calls a _).mono ?_
      rintro e w1 ⟨rfl, hb1⟩
      rw [h1]
      obtain ⟨c1, c2⟩ := HX.out.2.1.to hb1
      replace hb0 := below_trans hb0 hb1
      go_wp2_with fail
      refine (right_calls b _).mono ?_
      rintro e w2 ⟨rfl, hb2⟩
      rw [h2]
      replace hb0 := below_trans hb0 hb2
      go_wp2_with fail
      go_ret
      exact ⟨ret_i (by simp [errOf, h2]), hb0⟩
    | true =>
      cases h3 : flatB c with
      | _ =>
        go_enter Tryz.func58, Tryz.ntmps58
        go_wp2_with fail
        refine (right_calls a _).mono ?_
        rintro e w1 ⟨rfl, hb1⟩
        rw [h1]
        obtain ⟨c1, c2⟩ := HX.out.2.1.to hb1
        have HC := Lib.hid (HX.out.2.2.to hb1)
        replace hb0 := below_trans hb0 hb1
        go_wp2_with fail
        refine (right_calls b _).mono ?_
        rintro e w2 ⟨rfl, hb2⟩
        rw [h2]
        obtain ⟨c3, c4⟩ := HC.out.to hb2
        replace hb0 := below_trans hb0 hb2
        go_wp2_with fail
        refine (right_calls c _).mono ?_
        rintro e w3 ⟨rfl, hb3⟩
        rw [h3]
        replace hb0 := below_trans hb0 hb3
        go_wp2_with fail
        go_ret
        exact ⟨ret_i (by simp [errOf, h1, h2, h3]), hb0⟩

set_option maxHeartbeats 400000 in
theorem minus_calls (a b : P2) (w : World) (ha : Bd 1000000 a) (hb : Bd 1000000 b) :
    Calls Tryz.prog 113 #[V a, V b] w fun e w' => e = .returned (V (sub a b)) ∧ Below w.heap.size w w' := by
  obtain ⟨⟨a1, a2⟩, a3, a4⟩ := ha
  obtain ⟨⟨b1, b2⟩, b3, b4⟩ := hb
  obtain ⟨ax, ay⟩ := a
  obtain ⟨bx, by'⟩ := b
  simp only at a1 a2 a3 a4 b1 b2 b3 b4
  go_enter Tryz.func113, Tryz.ntmps113
  go_wp2
  exact bodyPost_ret (v := .agg #[.int .i64 (ax - bx), .int .i64 (ay - by')]) (by simp [results, Tryz.results113, go_sem]) rfl ⟨rfl, below3 _ _ _ _⟩

set_option maxHeartbeats 800000 in
theorem rdt_calls (a b : P2) (w : World) (ha : Bd 1000000000 a) (hb : Bd 1000000000 b) :
    Calls Tryz.prog 114 #[V a, V b] w fun e w' => e = .returned (.int .i64 (dt a b)) ∧ Below w.heap.size w w' := by
  obtain ⟨l1, u1⟩ := Mb.mul_bd ha.1 hb.1
  obtain ⟨l2, u2⟩ := Mb.mul_bd ha.2 hb.2
  clear ha hb
  obtain ⟨ax, ay⟩ := a
  obtain ⟨bx, by'⟩ := b
  simp only at l1 u1 l2 u2
  go_enter Tryz.func114, Tryz.ntmps114
  go_wp2
  go_ret
  exact ⟨rfl, below2 _ _ _⟩

set_option maxHeartbeats 800000 in
theorem rturn_calls (a b : P2) (w : World) (ha : Bd 1000000000 a) (hb : Bd 1000000000 b) :
    Calls Tryz.prog 150 #[V a, V b] w fun e w' => e = .returned (.int .i64 (a.x * b.y - a.y * b.x)) ∧ Below w.heap.size w w' := by
  obtain ⟨l1, u1⟩ := Mb.mul_bd ha.1 hb.2
  obtain ⟨l2, u2⟩ := Mb.mul_bd ha.2 hb.1
  clear ha hb
  obtain ⟨ax, ay⟩ := a
  obtain ⟨bx, by'⟩ := b
  simp only at l1 u1 l2 u2
  go_enter Tryz.func150, Tryz.ntmps150
  go_wp2
  go_ret
  exact ⟨rfl, below2 _ _ _⟩

theorem crs_def (a b c : P2) : (sub b a).x * (sub c a).y - (sub b a).y * (sub c a).x = crs a b c := rfl

set_option maxHeartbeats 1600000 in
theorem left_calls (a b c : P2) (w : World) (ha : Bd 100000 a) (hb : Bd 100000 b) (hc : Bd 100000 c) :
    Calls Tryz.prog 111 #[V a, V b, V c] w fun e w' => e = .returned (.int .i64 (crs a b c)) ∧ Below w.heap.size w w' := by
  obtain ⟨W, hW⟩ : ∃ W, W = ((w.alloc (B2 a 23)).alloc (B2 b 23)).alloc (B2 c 23) := ⟨_, rfl⟩
  have hb0 : Below w.heap.size w W := by rw [hW]; exact below3 _ _ _ _
  have hx := box3 w a b c 23 23 23
  rw [← hW] at hx
  obtain ⟨h1, h2, h3⟩ := hx
  have k1 := cell_regrown h1.1
  have k2 := cell_regrown h1.2
  have k3 := cell_regrown h2.1
  have k4 := cell_regrown h2.2
  have k5 := cell_regrown h3.1
  have k6 := cell_regrown h3.2
  have HA := Lib.hid (And.intro ha (And.intro hb hc)); clear ha hb hc
  have q1 : ∀ d os, Calls Tryz.prog 113 #[V b, V a] (grow (redrawn W d) os) fun e w'' => e = .returned (V (sub b a)) ∧ ∃ p : Regrown, w'' = grow (redrawn W p.d) p.os := fun d os => Calls.regrown_of (minus_calls b a _ (HA.out.2.1.mono (by omega)) (HA.out.1.mono (by omega)))
  have q2 : ∀ d os, Calls Tryz.prog 113 #[V c, V a] (grow (redrawn W d) os) fun e w'' => e = .returned (V (sub c a)) ∧ ∃ p : Regrown, w'' = grow (redrawn W p.d) p.os := fun d os => Calls.regrown_of (minus_calls c a _ (HA.out.2.2.mono (by omega)) (HA.out.1.mono (by omega)))
  have q3 : ∀ d os, Calls Tryz.prog 150 #[V (sub b a), V (sub c a)] (grow (redrawn W d) os) fun e w'' => e = .returned (.int .i64 (crs a b c)) ∧ ∃ p : Regrown, w'' = grow (redrawn W p.d) p.os := fun d os => Calls.regrown_of (rturn_calls _ _ _ ((HA.out.1.sub HA.out.2.1).mono (by omega)) ((HA.out.1.sub HA.out.2.2).mono (by omega)))
  clear h1 h2 h3
  go_enter Tryz.func111, Tryz.ntmps111
  go_wp2_with fail
  rw [← hW]
  clear hW
  refine wp_region_quiet_below follows (by kernel_rfl) ?_
  repeat (quiet_step (first | with_reducible exact q1 _ _ | with_reducible exact q2 _ _ | with_reducible exact q3 _ _))
  refine wpQuiet_nil ?_
  intro _ hw'
  obtain ⟨⟨dq, osq⟩, hw''⟩ := hw'
  subst hw''
  go_wp2_with fail
  go_ret
  exact ⟨rfl, below_trans hb0 (below_regrown W dq osq)⟩

set_option maxHeartbeats 1600000 in
theorem rfar_calls (a b : P2) (w : World) (ha : Bd 100000 a) (hb : Bd 100000 b) :
    Calls Tryz.prog 112 #[V a, V b] w fun e w' => e = .returned (.int .i64 (far b a)) ∧ Below w.heap.size w w' := by
  obtain ⟨W, hW⟩ : ∃ W, W = (w.alloc (B2 a 23)).alloc (B2 b 23) := ⟨_, rfl⟩
  have hb0 : Below w.heap.size w W := by rw [hW]; exact below2 _ _ _
  have hx := box2 w a b 23 23
  rw [← hW] at hx
  obtain ⟨h1, h2⟩ := hx
  have k1 := cell_regrown h1.1
  have k2 := cell_regrown h1.2
  have k3 := cell_regrown h2.1
  have k4 := cell_regrown h2.2
  have HA := Lib.hid (And.intro ha hb); clear ha hb
  have q1 : ∀ d os, Calls Tryz.prog 113 #[V a, V b] (grow (redrawn W d) os) fun e w'' => e = .returned (V (sub a b)) ∧ ∃ p : Regrown, w'' = grow (redrawn W p.d) p.os := fun d os => Calls.regrown_of (minus_calls a b _ (HA.out.1.mono (by omega)) (HA.out.2.mono (by omega)))
  have q3 : ∀ d os, Calls Tryz.prog 114 #[V (sub a b), V (sub a b)] (grow (redrawn W d) os) fun e w'' => e = .returned (.int .i64 (far b a)) ∧ ∃ p : Regrown, w'' = grow (redrawn W p.d) p.os := fun d os => Calls.regrown_of (rdt_calls _ _ _ ((HA.out.2.sub HA.out.1).mono (by omega)) ((HA.out.2.sub HA.out.1).mono (by omega)))
  clear h1 h2
  go_enter Tryz.func112, Tryz.ntmps112
  go_wp2_with fail
  rw [← hW]
  clear hW
  refine wp_region_quiet_below follows (by kernel_rfl) ?_
  repeat (quiet_step (first | with_reducible exact q1 _ _ | with_reducible exact q3 _ _))
  refine wpQuiet_nil ?_
  intro _ hw'
  obtain ⟨⟨dq, osq⟩, hw''⟩ := hw'
  subst hw''
  go_wp2_with fail
  go_ret
  exact ⟨rfl, below_trans hb0 (below_regrown W dq osq)⟩

end Go.Proofs.YtgdlfjofefhdoaaGreatDoor

namespace Go.Proofs.YtgdlfjofefhdoaaGreatDoor
open Go.RowKit Go.Sort Go.Lib Mb

theorem errOf_two {l : List P2} (h : errOf l ≠ 0) : errOf l = 2 := by
  unfold errOf at *
  split at h
  · exact absurd rfl h
  · rename_i e; rw [if_neg e]

theorem errOf_ok {l : List P2} (h : errOf l = 0) : ∀ p ∈ l, flatB p = true := by
  unfold errOf at h
  split at h
  · rename_i e; exact List.all_eq_true.1 e
  · cases h

end Go.Proofs.YtgdlfjofefhdoaaGreatDoor
