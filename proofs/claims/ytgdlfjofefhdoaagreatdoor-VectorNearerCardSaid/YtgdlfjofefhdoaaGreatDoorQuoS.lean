/- Package whole: Quo of integers of any size, the second one positive, where the division goes up. -/
import Derived.Test.YtgdlfjofefhdoaaGreatDoorMulS
import Derived.Test.YtgdlfjofefhdoaaGreatDoorRatA
import Derived.BigRegion
import Derived.BigQuiet
namespace Go.Proofs.YtgdlfjofefhdoaaGreatDoor
open Go.RowKit Go.Sort Go.Lib Mb

theorem sv_div {a b : Int} (hb : 0 < b) (h : b ∣ a) (l : Bool) (hl : l = decide (a < 0)) : sv l ((a.natAbs : Int) / b) = a / b := by
  obtain ⟨q, rfl⟩ := h
  have e : ((b * q).natAbs : Int) = b * (q.natAbs : Int) := by
    rw [Int.natAbs_mul]; push_cast; rw [show (b.natAbs : Int) = b by omega]
  rw [e, Int.mul_ediv_cancel_left _ (by omega), Int.mul_ediv_cancel_left _ (by omega), hl]
  unfold sv
  by_cases hq : q < 0
  · have : b * q < 0 := Int.mul_neg_of_pos_of_neg hb hq
    rw [decide_eq_true this]; simp; omega
  · have : ¬ b * q < 0 := by have := Int.mul_nonneg (Int.le_of_lt hb) (show 0 ≤ q by omega); omega
    rw [decide_eq_false this]; simp; omega

set_option maxRecDepth 100000 in
set_option maxHeartbeats 3200000 in
theorem parteds_calls (a b : Int) (w : World) (hg : Good w) (hda : (dg a).length ≤ 1024) (hdb : (dg b).length ≤ 1024) (hb : 0 < b) (hab : b ∣ a) (hno : 9 < (itoa a).length ∨ 9 < (itoa b).length) :
    Calls Tryz.prog 200 #[S a, S b] w fun e w' => e = .returned (.tuple #[S (a / b), S 0, .int .i64 0]) ∧ Below w.heap.size w w' := by
  have hne : (itoa b == [48]) = false := itoa_zero (by omega)
  have HH := Lib.hid (And.intro hg (And.intro (dg_room hda) (And.intro (dg_room hdb) hab))); clear hg hab
  go_enter Tryz.func200, Tryz.ntmps200
  go_wp2_with fail
  refine (all_calls [a, b] _ _ _ (txts2 w a b _) (by simp [hda, hdb]) (by simp)).mono ?_
  rintro e w1 ⟨rfl, hb1⟩
  go_wp2_with fail
  refine (small_no a b _ hno).mono ?_
  rintro e w2 ⟨rfl, hb2⟩
  have H2 := Lib.hid (below_trans (below_trans (alloc_below w _) hb1) hb2); clear hb1 hb2
  go_wp2_with fail
  refine (read_calls a _ hda).mono ?_
  rintro e w3 ⟨b1, m1, f1, rfl, hn1, hm1, hv1, hw1, hb3⟩
  have H3 := Lib.hid (And.intro hm1 (And.intro hv1 (And.intro hw1 (And.intro (below_trans H2.out hb3) hn1)))); clear hm1 hv1 hw1 hb3 hn1
  go_wp2_with fail
  refine (read_calls b _ hdb).mono ?_
  rintro e w4 ⟨b2, m2, f2, rfl, hn2, hm2, hv2, hw2, hb4⟩
  have hm20 : m2 ≠ 0 := by
    intro e
    have := (Mag.eq_zero hm2).2 e
    omega
  obtain ⟨m, rfl⟩ : ∃ m, m2 = m + 1 := ⟨m2 - 1, by omega⟩
  have hp2 : m + 1 ≤ 114 := mag_words hm2 (by rw [hv2]; exact HH.out.2.2.1)
  have hw1' := H3.out.2.2.1.to hb4
  have hbv : (b.natAbs : Int) = b := by omega
  rw [hbv] at hv2
  rw [decide_eq_false (show ¬ b < 0 by omega)] at hw2
  have HD := divided_calls b1 b2 m1 m _ _ f1 f2 w4 hw1' hw2 H3.out.1 hm2 (by omega)
  rw [hv2, H3.out.2.1] at HD
  have H4 := Lib.hid (And.intro hm2 (And.intro hw2 (And.intro hw1' (And.intro (below_trans H3.out.2.2.2.1 hb4) (And.intro hn2 hp2))))); clear hm2 hw2 hv2 hb4 hw1' hn2 hm20 hp2
  go_wp2_with fail
  refine HD.mono ?_
  rintro e w5 ⟨bq, br, mq, mr, q, r, rfl, ⟨hq1, hq2, hq3⟩, ⟨hr1, hr2, hr3⟩, ⟨hn3, hn4, hne1⟩, hb5⟩
  clear HD
  have hdz : (a.natAbs : Int) % b = 0 := by
    have h1 := Int.dvd_natAbs.2 HH.out.2.2.2
    exact Int.emod_eq_zero_of_dvd h1
  rw [hdz] at hr2
  have hmr : mr = 0 := (Mag.eq_zero hr1).1 hr2
  subst hmr
  have hx5 := H4.out.2.2.1.to hb5
  have hy5 := H4.out.2.1.to hb5
  have k1 := hx5.c0
  have k2 := hy5.c0
  have k3 := hq3.c0
  have k4 := hr3.c0
  have k5 := hq3.free 0
  have k6 := hr3.free 0
  obtain ⟨la, hla⟩ : ∃ la, decide (a < 0) = la := ⟨_, rfl⟩
  rw [hla] at k1 hx5
  have H5 := Lib.hid (And.intro hq1 (And.intro hq2 (And.intro hq3 (And.intro hr1 (And.intro hr3 (And.intro hx5 (And.intro hy5 (And.intro (below_trans H4.out.2.2.2.1 hb5) hla))))))))
  clear hq1 hq2 hq3 hr1 hr3 hx5 hy5 hb5 hdz hr2 hla
  go_wp2_with fail
  go_region
  obtain ⟨w6, hw6⟩ : ∃ w6, w6 = ((w5.setCell ⟨bq, 0, none⟩ (.bool la)).setCell ⟨br, 0, none⟩ (.bool la)).drew := ⟨_, rfl⟩
  rw [← hw6]
  have hb6 : Below w.heap.size w w6 := by
    rw [hw6]
    obtain ⟨hq1, hq2, hq3, hr1, hr3, hx5, hy5, hb5, hla⟩ := H5.out
    have h1 := hb5.size
    have h2 := H4.out.2.2.2.1.size
    exact ((hb5.setCell (p := ⟨bq, 0, none⟩) (by show w.heap.size ≤ bq; omega) _).setCell (p := ⟨br, 0, none⟩) (by show w.heap.size ≤ br; omega) _).drew
  have hq6 : Wide w6 bq la mq q := by
    rw [hw6]
    exact (((H5.out.2.2.1.setL la).grown (gb_set _ br 0 _) (by simp; exact hne1))).drew
  have hr6 : Wide w6 br la 0 r := by
    rw [hw6]
    exact ((H5.out.2.2.2.2.1.grown (gb_set _ bq 0 _) (by simp; exact fun e => hne1 e.symm)).setL la).drew
  have k7 := hr6.c1
  have hval : sv la (val q mq) = a / b := by
    rw [H5.out.2.1]
    exact sv_div hb HH.out.2.2.2 la H5.out.2.2.2.2.2.2.2.2.symm
  have H6 := Lib.hid (And.intro hq6 (And.intro hr6 (And.intro hb6 hval)))
  clear hw6 k1 k2 k3 k4 k5 k6 hq6 hr6 hb6 hval
  go_wp2_with fail
  go_quiet (fail)
  go_wp2_with fail
  have hb7 : Below w.heap.size w (w6.drewN nq) := below_trans H6.out.2.2.1 (bel_dn _ _)
  have HT := texts_calls bq mq la q (w6.drewN nq) (HH.out.1.to hb7) (H6.out.1.drewN _) H5.out.1
  rw [H6.out.2.2.2] at HT
  refine HT.mono ?_
  rintro e w7 ⟨rfl, hb8⟩
  have H7 := Lib.hid (And.intro (below_trans hb7 hb8) ((H6.out.2.1.drewN nq).to hb8)); clear HT hb7 hb8 k7
  go_wp2_with fail
  refine (text0_calls br la r w7 H7.out.2).mono ?_
  rintro e w8 ⟨rfl, hb9⟩
  go_wp2_with fail
  go_ret3
  exact ⟨rfl, below_trans H7.out.1 hb9⟩

set_option maxRecDepth 100000 in
set_option maxHeartbeats 800000 in
/-- short numbers, the first one negative, the division going up -/
theorem partedm_short (a b : Int) (w : World) (hg : Good w) (ha : (itoa a).length ≤ 9) (hb : (itoa b).length ≤ 9) (h0 : a < 0) (h1 : 0 < b) (hab : b ∣ a) :
    Calls Tryz.prog 200 #[S a, S b] w fun e w' => e = .returned (.tuple #[S (a / b), S 0, .int .i64 0]) ∧ Below w.heap.size w w' := by
  have ba := itoa_bd ha (by omega)
  have bb := itoa_bd hb (by omega)
  have hda : (dg a).length ≤ 1024 := by have := dg_le_itoa a; omega
  have hdb : (dg b).length ≤ 1024 := by have := dg_le_itoa b; omega
  have hz := itoa_zero (n := b) (by omega)
  have hq : a.tdiv b = a / b := by
    obtain ⟨q, rfl⟩ := hab
    rw [Int.mul_tdiv_cancel_left _ (by omega), Int.mul_ediv_cancel_left _ (by omega)]
  have hr : a.tmod b = 0 := Int.tmod_eq_zero_of_dvd hab
  have hqb : -1000000000 < a / b ∧ a / b ≤ 0 := by
    obtain ⟨q, rfl⟩ := hab
    rw [Int.mul_ediv_cancel_left _ (by omega)]
    have e1 : q < 0 := by
      rcases Int.lt_or_le q 0 with h | h
      · exact h
      · have := Int.mul_nonneg (Int.le_of_lt h1) h; omega
    have e2 : b * q ≤ 1 * q := Int.mul_le_mul_of_nonpos_right (by omega) (by omega)
    omega
  obtain ⟨q, hqq⟩ : ∃ q, a / b = q := ⟨_, rfl⟩
  rw [hqq] at hq hqb ⊢
  have i1 : IntKind.i64.wrap q = q := IntWalk.i64_in _ (by omega)
  have i2 : b ≠ 0 := by omega
  have i3 : (b == 0) = false := by rw [beq_eq_false_iff_ne]; exact i2
  clear hqq hab
  go_enter Tryz.func200, Tryz.ntmps200
  go_wp2_with fail
  refine (all_calls [a, b] _ _ _ (txts2 w a b _) (by simp [hda, hdb]) (by simp)).mono ?_
  rintro e w1 ⟨rfl, hb1⟩
  go_wp2_with fail
  refine (small_yes a b _ ha hb).mono ?_
  rintro e w2 ⟨rfl, hb2⟩
  have hbb := below_trans (below_trans (alloc_below w _) hb1) hb2
  go_wp2_with fail
  go_quiet (fail)
  go_wp2_with fail
  refine (of_calls _ _ (hg.to (below_trans hbb (bel_dn _ _))) (by omega) (by omega)).mono ?_
  rintro e w3 ⟨rfl, hb3⟩
  go_wp2_with fail
  refine (of_calls _ _ ((hg.to (below_trans hbb (bel_dn _ _))).to hb3) (by omega) (by omega)).mono ?_
  rintro e w4 ⟨rfl, hb4⟩
  go_wp2_with fail
  go_ret3
  exact ⟨rfl, below_trans (below_trans (below_trans hbb (bel_dn _ _)) hb3) hb4⟩

theorem parted_calls (a b : Int) (w : World) (hg : Good w) (hda : (dg a).length ≤ 1024) (hdb : (dg b).length ≤ 1024) (hb : 0 < b) (hab : b ∣ a) :
    Calls Tryz.prog 200 #[S a, S b] w fun e w' => e = .returned (.tuple #[S (a / b), S 0, .int .i64 0]) ∧ Below w.heap.size w w' := by
  by_cases hsh : (itoa a).length ≤ 9 ∧ (itoa b).length ≤ 9
  · by_cases h0 : 0 ≤ a
    · have := parted_short a b w hg hsh.1 hsh.2 h0 hb
      rwa [Int.emod_eq_zero_of_dvd hab] at this
    · exact partedm_short a b w hg hsh.1 hsh.2 (by omega) hb hab
  · exact parteds_calls a b w hg hda hdb hb hab (by omega)

theorem dg_quo_k {a b : Int} (k : Nat) (hk : 1 ≤ k) (h : (dg a).length ≤ k) (hb : 0 < b) (hab : b ∣ a) : (dg (a / b)).length ≤ k := by
  have h1 : a.natAbs < 10 ^ k := (decDigits_len_le hk).1 h
  refine (decDigits_len_le hk).2 (Nat.lt_of_le_of_lt ?_ h1)
  obtain ⟨q, rfl⟩ := hab
  rw [Int.mul_ediv_cancel_left _ (by omega), Int.natAbs_mul]
  exact Nat.le_mul_of_pos_left _ (by omega)
theorem dg_quo {a b : Int} (h : (dg a).length ≤ 1024) (hb : 0 < b) (hab : b ∣ a) : (dg (a / b)).length ≤ 1024 := dg_quo_k 1024 (by decide) h hb hab

theorem quos_calls (a b : Int) (w : World) (hg : Good w) (hda : (dg a).length ≤ 1024) (hdb : (dg b).length ≤ 1024) (hb : 0 < b) (hab : b ∣ a) :
    Calls Tryz.prog 174 #[S a, S b] w fun e w' => e = .returned (.tuple #[S (a / b), .int .i64 0]) ∧ Below w.heap.size w w' := by
  have hdq := dg_quo hda hb hab
  go_enter Tryz.func174, Tryz.ntmps174
  go_wp2_with fail
  refine (parted_calls a b w hg hda hdb hb hab).mono ?_
  rintro e w1 ⟨rfl, hb1⟩
  go_wp2_with fail
  refine (check_calls (a / b) _ hdq).mono ?_
  rintro e w2 ⟨rfl, hb2⟩
  go_wp2_with fail
  go_ret2
  exact ⟨rfl, below_trans hb1 hb2⟩

end Go.Proofs.YtgdlfjofefhdoaaGreatDoor
