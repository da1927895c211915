/- The reference of layer 7: Dot, Cross, Side, Square. -/
import Derived.Test.YtocackggamifnaaGreatDoorRefA
namespace Go.Proofs.YtocackggamifnaaGreatDoor
open Go.RowKit Go.Sort Go.Lib Mb

theorem errOf_two {l : List P2} (h : errOf l ≠ 0) : errOf l = 2 := by
  unfold errOf at *
  split at h
  · exact absurd rfl h
  · rename_i e; rw [if_neg e]

theorem errOf_ok {l : List P2} (h : errOf l = 0) : ∀ p ∈ l, flatB p = true := by
  unfold errOf at h
  split at h
  · rename_i e; exact List.all_eq_true.1 e
  · cases h

theorem signum_calls (n : Int) (w : World) :
    Calls Tryz.prog 72 #[.int .i64 n] w fun e w' => e = .returned (.int .i64 (sgn n)) ∧ w = w' := by
  by_cases h1 : n < 0
  · go_enter Tryz.func72, Tryz.ntmps72
    go_wp2
    go_ret
    exact ⟨ret_i (by simp [sgn, h1]), rfl⟩
  · by_cases h2 : n > 0
    · go_enter Tryz.func72, Tryz.ntmps72
      go_wp2
      go_ret
      exact ⟨ret_i (by simp [sgn]; omega), rfl⟩
    · go_enter Tryz.func72, Tryz.ntmps72
      go_wp2
      go_ret
      exact ⟨ret_i (by simp [sgn]; omega), rfl⟩

set_option maxHeartbeats 800000 in
theorem rDot_ok (a b : P2) (w : World) (he : errOf [a, b] = 0) :
    Calls Tryz.prog 38 #[V a, V b] w fun e w' => e = .returned (.tuple #[.int .i64 (dt a b), .int .i64 0]) ∧ Below w.heap.size w w' := by
  have hx := box2 w a b 23 23
  have hb0 := below2 w (B2 a 23) (B2 b 23)
  have HX := Lib.hid hx; clear hx
  have HA := Lib.hid (And.intro (bd_flat (errOf_ok he a (by simp))) (bd_flat (errOf_ok he b (by simp))))
  go_enter Tryz.func38, Tryz.ntmps38
  go_wp2_with fail
  refine (pair_calls a b _).mono ?_
  rintro e w1 ⟨rfl, hb1⟩
  rw [he]
  obtain ⟨c1, c2⟩ := HX.out.1.to hb1
  obtain ⟨c3, c4⟩ := HX.out.2.to hb1
  replace hb0 := below_trans hb0 hb1
  go_wp2_with fail
  refine (times_calls a b _ (HA.out.1.mono (by omega)) (HA.out.2.mono (by omega))).mono ?_
  rintro e w2 ⟨rfl, hb2⟩
  replace hb0 := below_trans hb0 hb2
  go_wp2_with fail
  go_ret2
  exact ⟨rfl, hb0⟩

theorem rDot_err (a b : P2) (w : World) (he : errOf [a, b] = 2) :
    Calls Tryz.prog 38 #[V a, V b] w fun e w' => e = .returned (.tuple #[.int .i64 0, .int .i64 2]) ∧ Below w.heap.size w w' := by
  have hb0 := below2 w (B2 a 23) (B2 b 23)
  go_enter Tryz.func38, Tryz.ntmps38
  go_wp2_with fail
  refine (pair_calls a b _).mono ?_
  rintro e w1 ⟨rfl, hb1⟩
  rw [he]
  replace hb0 := below_trans hb0 hb1
  go_wp2_with fail
  go_ret2
  exact ⟨rfl, hb0⟩

set_option maxHeartbeats 800000 in
theorem rSquare_ok (a b : P2) (w : World) (he : errOf [a, b] = 0) :
    Calls Tryz.prog 44 #[V a, V b] w fun e w' => e = .returned (.tuple #[.int .i64 (far b a), .int .i64 0]) ∧ Below w.heap.size w w' := by
  have hx := box2 w a b 23 23
  have hb0 := below2 w (B2 a 23) (B2 b 23)
  have HX := Lib.hid hx; clear hx
  have HA := Lib.hid (And.intro (bd_flat (errOf_ok he a (by simp))) (bd_flat (errOf_ok he b (by simp))))
  go_enter Tryz.func44, Tryz.ntmps44
  go_wp2_with fail
  refine (pair_calls a b _).mono ?_
  rintro e w1 ⟨rfl, hb1⟩
  rw [he]
  obtain ⟨c1, c2⟩ := HX.out.1.to hb1
  obtain ⟨c3, c4⟩ := HX.out.2.to hb1
  replace hb0 := below_trans hb0 hb1
  go_wp2_with fail
  refine (rfar_calls a b _ HA.out.1 HA.out.2).mono ?_
  rintro e w2 ⟨rfl, hb2⟩
  replace hb0 := below_trans hb0 hb2
  go_wp2_with fail
  go_ret2
  exact ⟨rfl, hb0⟩

theorem rSquare_err (a b : P2) (w : World) (he : errOf [a, b] = 2) :
    Calls Tryz.prog 44 #[V a, V b] w fun e w' => e = .returned (.tuple #[.int .i64 0, .int .i64 2]) ∧ Below w.heap.size w w' := by
  have hb0 := below2 w (B2 a 23) (B2 b 23)
  go_enter Tryz.func44, Tryz.ntmps44
  go_wp2_with fail
  refine (pair_calls a b _).mono ?_
  rintro e w1 ⟨rfl, hb1⟩
  rw [he]
  replace hb0 := below_trans hb0 hb1
  go_wp2_with fail
  go_ret2
  exact ⟨rfl, hb0⟩

set_option maxHeartbeats 800000 in
theorem rCross_ok (a b c : P2) (w : World) (he : errOf [a, b, c] = 0) :
    Calls Tryz.prog 40 #[V a, V b, V c] w fun e w' => e = .returned (.tuple #[.int .i64 (crs a b c), .int .i64 0]) ∧ Below w.heap.size w w' := by
  have hx := box3 w a b c 23 23 23
  have hb0 := below3 w (B2 a 23) (B2 b 23) (B2 c 23)
  have HX := Lib.hid hx; clear hx
  have HA := Lib.hid (And.intro (bd_flat (errOf_ok he a (by simp))) (And.intro (bd_flat (errOf_ok he b (by simp))) (bd_flat (errOf_ok he c (by simp)))))
  go_enter Tryz.func40, Tryz.ntmps40
  go_wp2_with fail
  refine (three_calls a b c _).mono ?_
  rintro e w1 ⟨rfl, hb1⟩
  rw [he]
  obtain ⟨c1, c2⟩ := HX.out.1.to hb1
  obtain ⟨c3, c4⟩ := HX.out.2.1.to hb1
  obtain ⟨c5, c6⟩ := HX.out.2.2.to hb1
  replace hb0 := below_trans hb0 hb1
  go_wp2_with fail
  refine (left_calls a b c _ HA.out.1 HA.out.2.1 HA.out.2.2).mono ?_
  rintro e w2 ⟨rfl, hb2⟩
  replace hb0 := below_trans hb0 hb2
  go_wp2_with fail
  go_ret2
  exact ⟨rfl, hb0⟩

theorem rCross_err (a b c : P2) (w : World) (he : errOf [a, b, c] = 2) :
    Calls Tryz.prog 40 #[V a, V b, V c] w fun e w' => e = .returned (.tuple #[.int .i64 0, .int .i64 2]) ∧ Below w.heap.size w w' := by
  have hb0 := below3 w (B2 a 23) (B2 b 23) (B2 c 23)
  go_enter Tryz.func40, Tryz.ntmps40
  go_wp2_with fail
  refine (three_calls a b c _).mono ?_
  rintro e w1 ⟨rfl, hb1⟩
  rw [he]
  replace hb0 := below_trans hb0 hb1
  go_wp2_with fail
  go_ret2
  exact ⟨rfl, hb0⟩

set_option maxHeartbeats 800000 in
theorem rSide_ok (a b c : P2) (w : World) (he : errOf [a, b, c] = 0) :
    Calls Tryz.prog 42 #[V a, V b, V c] w fun e w' => e = .returned (.tuple #[.int .i64 (sgn (crs a b c)), .int .i64 0]) ∧ Below w.heap.size w w' := by
  have hb0 := below3 w (B2 a 23) (B2 b 23) (B2 c 23)
  go_enter Tryz.func42, Tryz.ntmps42
  go_wp2_with fail
  refine (rCross_ok a b c _ he).mono ?_
  rintro e w1 ⟨rfl, hb1⟩
  replace hb0 := below_trans hb0 hb1
  go_wp2_with fail
  refine (signum_calls _ _).mono ?_
  rintro e w2 ⟨rfl, rfl⟩
  go_wp2_with fail
  go_ret2
  exact ⟨rfl, hb0⟩

theorem rSide_err (a b c : P2) (w : World) (he : errOf [a, b, c] = 2) :
    Calls Tryz.prog 42 #[V a, V b, V c] w fun e w' => e = .returned (.tuple #[.int .i64 0, .int .i64 2]) ∧ Below w.heap.size w w' := by
  have hb0 := below3 w (B2 a 23) (B2 b 23) (B2 c 23)
  go_enter Tryz.func42, Tryz.ntmps42
  go_wp2_with fail
  refine (rCross_err a b c _ he).mono ?_
  rintro e w1 ⟨rfl, hb1⟩
  replace hb0 := below_trans hb0 hb1
  go_wp2_with fail
  refine (signum_calls _ _).mono ?_
  rintro e w2 ⟨rfl, rfl⟩
  go_wp2_with fail
  go_ret2
  exact ⟨rfl, hb0⟩

end Go.Proofs.YtocackggamifnaaGreatDoor
