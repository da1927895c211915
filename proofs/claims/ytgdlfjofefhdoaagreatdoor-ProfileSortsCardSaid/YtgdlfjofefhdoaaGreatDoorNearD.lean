/- The plain law of VectorNearer: a segment is never nearer than its line, never farther than its ends. -/
import Derived.Test.YtgdlfjofefhdoaaGreatDoorVecX
namespace Go.Proofs.YtgdlfjofefhdoaaGreatDoor
open Go.RowKit Go.Sort Go.Lib Mb

theorem cmp3_le {a b : Int} (h : a ≤ b) : cmp3 a b ≤ 0 := by unfold cmp3; repeat' split <;> omega
theorem cmp3_same (a : Int) : cmp3 a a = 0 := by unfold cmp3; repeat' split <;> omega

theorem lagr_a (p a b : P2) : crs a b p * crs a b p + dt (sub b a) (sub p a) * dt (sub b a) (sub p a) = far a b * far a p := by simp only [crs, dt, far, sub]; grind
theorem lagr_b (p a b : P2) : crs a b p * crs a b p + dt (sub b a) (sub p b) * dt (sub b a) (sub p b) = far a b * far b p := by simp only [crs, dt, far, sub]; grind
theorem farab (p a b : P2) : far b p = far a p - 2 * dt (sub b a) (sub p a) + far a b := by simp only [dt, far, sub]; grind
theorem farba (p a b : P2) : far a p = far a b + 2 * dt (sub b a) (sub p b) + far b p := by simp only [dt, far, sub]; grind
theorem dt_neg (p a b : P2) : dt (sub a b) (sub p b) = - dt (sub b a) (sub p b) := by simp only [dt, sub]; grind

theorem end_le {C D f : Int} (hD : 0 < D) (h : C ≤ D * f) : rn C D ≤ f * rd C D := by
  have e := r_cross C D
  have h1 := rd_pos (n := C) (d := D) (by omega)
  have h2 := Int.mul_le_mul_of_nonneg_right h (Int.le_of_lt h1)
  refine Int.le_of_mul_le_mul_right (a := D) ?_ hD
  rw [e]
  have : D * f * rd C D = f * rd C D * D := by grind
  omega

theorem end_eq {C D f : Int} (hD : 0 < D) (h : C = D * f) : rn C D = f * rd C D := by
  have e := r_cross C D
  refine Int.eq_of_mul_eq_mul_right (a := D) (by omega) ?_
  rw [e, h]; grind

theorem seg_cases (p a b : P2) : (dt (sub b a) (sub p a) ≤ 0 ∧ segN p a b = far a p ∧ segD p a b = 1) ∨ (0 < dt (sub b a) (sub p b) ∧ segN p a b = far b p ∧ segD p a b = 1) ∨
    (0 < dt (sub b a) (sub p a) ∧ dt (sub b a) (sub p b) ≤ 0 ∧ segN p a b = rn (crs a b p * crs a b p) (far a b) ∧ segD p a b = rd (crs a b p * crs a b p) (far a b)) := by
  unfold segN segD
  by_cases c1 : dt (sub b a) (sub p a) ≤ 0
  · exact .inl ⟨c1, by rw [if_pos c1], by rw [if_pos c1]⟩
  · by_cases c2 : 0 < dt (sub b a) (sub p b)
    · exact .inr (.inl ⟨c2, by rw [if_neg c1, if_pos c2], by rw [if_neg c1, if_pos c2]⟩)
    · exact .inr (.inr ⟨by omega, by omega, by rw [if_neg c1, if_neg c2], by rw [if_neg c1, if_neg c2]⟩)

theorem crs_a (p a b : P2) : crs a b p * crs a b p ≤ far a b * far a p := by
  have h1 := lagr_a p a b; have h2 := sq_nonneg (dt (sub b a) (sub p a)); omega
theorem crs_b (p a b : P2) : crs a b p * crs a b p ≤ far a b * far b p := by
  have h1 := lagr_b p a b; have h2 := sq_nonneg (dt (sub b a) (sub p b)); omega

theorem nearer_1 {p a b : P2} (hab : a ≠ b) : cmp3 (rn (crs a b p * crs a b p) (far a b) * segD p a b) (segN p a b * rd (crs a b p * crs a b p) (far a b)) ≤ 0 := by
  have hD := far_pos hab
  refine cmp3_le ?_
  rcases seg_cases p a b with ⟨_, e1, e2⟩ | ⟨_, e1, e2⟩ | ⟨_, _, e1, e2⟩
  · rw [e1, e2, Int.mul_one]; exact end_le hD (crs_a p a b)
  · rw [e1, e2, Int.mul_one]; exact end_le hD (crs_b p a b)
  · rw [e1, e2]; exact Int.le_refl _

theorem nearer_2 {p a b : P2} (hab : a ≠ b) : segN p a b ≤ far a p * segD p a b ∧ segN p a b ≤ far b p * segD p a b := by
  have hD := far_pos hab
  have h1 := farab p a b
  have h2 := farba p a b
  rcases seg_cases p a b with ⟨_, e1, e2⟩ | ⟨_, e1, e2⟩ | ⟨_, _, e1, e2⟩
  · rw [e1, e2]; omega
  · rw [e1, e2]; omega
  · rw [e1, e2]; exact ⟨end_le hD (crs_a p a b), end_le hD (crs_b p a b)⟩

theorem nearer_3 {p a b : P2} (hab : a ≠ b) (hu : 0 ≤ dt (sub b a) (sub p a)) (hv : 0 ≤ dt (sub a b) (sub p b)) : cmp3 (rn (crs a b p * crs a b p) (far a b) * segD p a b) (segN p a b * rd (crs a b p * crs a b p) (far a b)) = 0 := by
  have hD := far_pos hab
  rw [dt_neg] at hv
  rcases seg_cases p a b with ⟨h, e1, e2⟩ | ⟨h, e1, e2⟩ | ⟨_, _, e1, e2⟩
  · have h0 : dt (sub b a) (sub p a) = 0 := by omega
    have hl := lagr_a p a b
    rw [h0, Int.mul_zero, Int.add_zero] at hl
    rw [e1, e2, Int.mul_one, end_eq hD hl]; exact cmp3_same _
  · omega
  · rw [e1, e2]; exact cmp3_same _

end Go.Proofs.YtgdlfjofefhdoaaGreatDoor
