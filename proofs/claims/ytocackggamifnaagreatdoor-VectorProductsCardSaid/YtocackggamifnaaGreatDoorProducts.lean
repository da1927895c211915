/- The walk of VectorProducts: it answers true. -/
import Derived.Test.YtocackggamifnaaGreatDoorRefB
import Derived.Test.YtocackggamifnaaGreatDoorAwake
namespace Go.Proofs.YtocackggamifnaaGreatDoor
open Go.RowKit Go.Sort Go.Lib Mb

/-- both sides' answers in one form: the value and the error -/
def two (e v : Int) : Int := if e = 0 then v else 0

theorem far_sym (a b : P2) : far b a = far a b := by simp only [far]; grind

theorem err_cases (l : List P2) : errOf l = 0 ∨ errOf l = 2 := by
  by_cases h : errOf l = 0
  · exact .inl h
  · exact .inr (errOf_two h)

theorem Dot_any (a b : P2) (w : World) : Calls Tryz.prog 37 #[V a, V b] w fun e w' => e = .returned (.tuple #[.int .i64 (two (errOf [a, b]) (dt a b)), .int .i64 (errOf [a, b])]) ∧ Below w.heap.size w w' := by
  rcases err_cases [a, b] with h | h <;> rw [h]
  · exact Dot_ok a b w (errOf_ok h a (by simp)) (errOf_ok h b (by simp))
  · exact Dot_err a b w h
theorem rDot_any (a b : P2) (w : World) : Calls Tryz.prog 38 #[V a, V b] w fun e w' => e = .returned (.tuple #[.int .i64 (two (errOf [a, b]) (dt a b)), .int .i64 (errOf [a, b])]) ∧ Below w.heap.size w w' := by
  rcases err_cases [a, b] with h | h <;> rw [h]
  · exact rDot_ok a b w h
  · exact rDot_err a b w h
theorem Square_any (a b : P2) (w : World) : Calls Tryz.prog 43 #[V a, V b] w fun e w' => e = .returned (.tuple #[.int .i64 (two (errOf [a, b]) (far a b)), .int .i64 (errOf [a, b])]) ∧ Below w.heap.size w w' := by
  rcases err_cases [a, b] with h | h <;> rw [h]
  · exact Square_ok a b w (errOf_ok h a (by simp)) (errOf_ok h b (by simp))
  · exact Square_err a b w h
theorem rSquare_any (a b : P2) (w : World) : Calls Tryz.prog 44 #[V a, V b] w fun e w' => e = .returned (.tuple #[.int .i64 (two (errOf [a, b]) (far a b)), .int .i64 (errOf [a, b])]) ∧ Below w.heap.size w w' := by
  rcases err_cases [a, b] with h | h <;> rw [h]
  · rw [← far_sym]; exact rSquare_ok a b w h
  · exact rSquare_err a b w h
theorem Cross_any (a b c : P2) (w : World) : Calls Tryz.prog 39 #[V a, V b, V c] w fun e w' => e = .returned (.tuple #[.int .i64 (two (errOf [a, b, c]) (crs a b c)), .int .i64 (errOf [a, b, c])]) ∧ Below w.heap.size w w' := by
  rcases err_cases [a, b, c] with h | h <;> rw [h]
  · exact Cross_ok a b c w (errOf_ok h a (by simp)) (errOf_ok h b (by simp)) (errOf_ok h c (by simp))
  · exact Cross_err a b c w h
theorem rCross_any (a b c : P2) (w : World) : Calls Tryz.prog 40 #[V a, V b, V c] w fun e w' => e = .returned (.tuple #[.int .i64 (two (errOf [a, b, c]) (crs a b c)), .int .i64 (errOf [a, b, c])]) ∧ Below w.heap.size w w' := by
  rcases err_cases [a, b, c] with h | h <;> rw [h]
  · exact rCross_ok a b c w h
  · exact rCross_err a b c w h
theorem Side_any (a b c : P2) (w : World) : Calls Tryz.prog 41 #[V a, V b, V c] w fun e w' => e = .returned (.tuple #[.int .i64 (two (errOf [a, b, c]) (sgn (crs a b c))), .int .i64 (errOf [a, b, c])]) ∧ Below w.heap.size w w' := by
  rcases err_cases [a, b, c] with h | h <;> rw [h]
  · exact Side_ok a b c w (errOf_ok h a (by simp)) (errOf_ok h b (by simp)) (errOf_ok h c (by simp))
  · exact Side_err a b c w h
theorem rSide_any (a b c : P2) (w : World) : Calls Tryz.prog 42 #[V a, V b, V c] w fun e w' => e = .returned (.tuple #[.int .i64 (two (errOf [a, b, c]) (sgn (crs a b c))), .int .i64 (errOf [a, b, c])]) ∧ Below w.heap.size w w' := by
  rcases err_cases [a, b, c] with h | h <;> rw [h]
  · exact rSide_ok a b c w h
  · exact rSide_err a b c w h

set_option maxHeartbeats 3200000 in
theorem products_calls (a b c : P2) (w : World) (hg : Good w) :
    Calls Tryz.prog 7 #[V a, V b, V c] w fun e w' => e = .returned (.bool true) ∧ Below w.heap.size w w' := by
  have hx := box3 w a b c 23 23 23
  have H := below3 w (B2 a 23) (B2 b 23) (B2 c 23)
  have HX := Lib.hid hx; clear hx
  have HG := Lib.hid hg; clear hg
  obtain ⟨x1, g1⟩ : ∃ x, x = two (errOf [a, b]) (dt a b) := ⟨_, rfl⟩
  obtain ⟨x2, g2⟩ : ∃ x, x = errOf [a, b] := ⟨_, rfl⟩
  obtain ⟨x3, g3⟩ : ∃ x, x = two (errOf [a, b, c]) (crs a b c) := ⟨_, rfl⟩
  obtain ⟨x4, g4⟩ : ∃ x, x = errOf [a, b, c] := ⟨_, rfl⟩
  obtain ⟨x5, g5⟩ : ∃ x, x = two (errOf [a, b, c]) (sgn (crs a b c)) := ⟨_, rfl⟩
  obtain ⟨x6, g6⟩ : ∃ x, x = two (errOf [a, b]) (far a b) := ⟨_, rfl⟩
  have t1 := Dot_any a b
  have t2 := rDot_any a b
  have t3 := Cross_any a b c
  have t4 := rCross_any a b c
  have t5 := Side_any a b c
  have t6 := rSide_any a b c
  have t7 := Square_any a b
  have t8 := rSquare_any a b
  rw [← g1, ← g2] at t1 t2
  rw [← g3, ← g4] at t3 t4
  rw [← g5, ← g4] at t5 t6
  rw [← g6, ← g2] at t7 t8
  have HT := Lib.hid (And.intro t1 (And.intro t2 (And.intro t3 (And.intro t4 (And.intro t5 (And.intro t6 (And.intro t7 t8)))))))
  clear t1 t2 t3 t4 t5 t6 t7 t8 g1 g2 g3 g4 g5 g6
  have hb0 := Below.refl (((w.alloc (B2 a 23)).alloc (B2 b 23)).alloc (B2 c 23)).heap.size (((w.alloc (B2 a 23)).alloc (B2 b 23)).alloc (B2 c 23))
  go_enter Tryz.func7, Tryz.ntmps7
  obtain ⟨c1, c2⟩ := HX.out.1.to hb0
  obtain ⟨c3, c4⟩ := HX.out.2.1.to hb0
  obtain ⟨c5, c6⟩ := HX.out.2.2.to hb0
  go_wp2_with fail
  refine (HT.out.1 _).mono ?_
  rintro e w' ⟨rfl, hb⟩
  replace hb0 := below_trans hb0 hb
  clear hb c1 c2 c3 c4 c5 c6
  obtain ⟨c1, c2⟩ := HX.out.1.to hb0
  obtain ⟨c3, c4⟩ := HX.out.2.1.to hb0
  obtain ⟨c5, c6⟩ := HX.out.2.2.to hb0
  go_wp2_with fail
  refine (HT.out.2.1 _).mono ?_
  rintro e w' ⟨rfl, hb⟩
  replace hb0 := below_trans hb0 hb
  clear hb c1 c2 c3 c4 c5 c6
  obtain ⟨c1, c2⟩ := HX.out.1.to hb0
  obtain ⟨c3, c4⟩ := HX.out.2.1.to hb0
  obtain ⟨c5, c6⟩ := HX.out.2.2.to hb0
  go_wp2_with fail
  refine (HT.out.2.2.1 _).mono ?_
  rintro e w' ⟨rfl, hb⟩
  replace hb0 := below_trans hb0 hb
  clear hb c1 c2 c3 c4 c5 c6
  obtain ⟨c1, c2⟩ := HX.out.1.to hb0
  obtain ⟨c3, c4⟩ := HX.out.2.1.to hb0
  obtain ⟨c5, c6⟩ := HX.out.2.2.to hb0
  go_wp2_with fail
  refine (HT.out.2.2.2.1 _).mono ?_
  rintro e w' ⟨rfl, hb⟩
  replace hb0 := below_trans hb0 hb
  clear hb c1 c2 c3 c4 c5 c6
  obtain ⟨c1, c2⟩ := HX.out.1.to hb0
  obtain ⟨c3, c4⟩ := HX.out.2.1.to hb0
  obtain ⟨c5, c6⟩ := HX.out.2.2.to hb0
  go_wp2_with fail
  refine (HT.out.2.2.2.2.1 _).mono ?_
  rintro e w' ⟨rfl, hb⟩
  replace hb0 := below_trans hb0 hb
  clear hb c1 c2 c3 c4 c5 c6
  obtain ⟨c1, c2⟩ := HX.out.1.to hb0
  obtain ⟨c3, c4⟩ := HX.out.2.1.to hb0
  obtain ⟨c5, c6⟩ := HX.out.2.2.to hb0
  go_wp2_with fail
  refine (HT.out.2.2.2.2.2.1 _).mono ?_
  rintro e w' ⟨rfl, hb⟩
  replace hb0 := below_trans hb0 hb
  clear hb c1 c2 c3 c4 c5 c6
  obtain ⟨c1, c2⟩ := HX.out.1.to hb0
  obtain ⟨c3, c4⟩ := HX.out.2.1.to hb0
  obtain ⟨c5, c6⟩ := HX.out.2.2.to hb0
  go_wp2_with fail
  refine (HT.out.2.2.2.2.2.2.1 _).mono ?_
  rintro e w' ⟨rfl, hb⟩
  replace hb0 := below_trans hb0 hb
  clear hb c1 c2 c3 c4 c5 c6
  obtain ⟨c1, c2⟩ := HX.out.1.to hb0
  obtain ⟨c3, c4⟩ := HX.out.2.1.to hb0
  obtain ⟨c5, c6⟩ := HX.out.2.2.to hb0
  go_wp2_with fail
  refine (HT.out.2.2.2.2.2.2.2 _).mono ?_
  rintro e w' ⟨rfl, hb⟩
  replace hb0 := below_trans hb0 hb
  clear hb c1 c2 c3 c4 c5 c6
  have HB := below_trans H hb0
  clear H hb0
  go_wp2_with fail
  refine (awake_calls _ (HG.out.to HB)).mono ?_
  rintro e w' ⟨rfl, hb⟩
  go_wp2_with fail
  go_ret
  exact ⟨rfl, below_trans HB hb⟩

end Go.Proofs.YtocackggamifnaaGreatDoor
