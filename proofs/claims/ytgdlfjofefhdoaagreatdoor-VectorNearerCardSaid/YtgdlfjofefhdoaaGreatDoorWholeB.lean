/- Package whole: the short ways of Mul, Add, Quo, Gcd. -/
import Derived.Test.YtgdlfjofefhdoaaGreatDoorWholeA
namespace Go.Proofs.YtgdlfjofefhdoaaGreatDoor
open Go.RowKit Go.Sort Go.Lib Mb

theorem txts2 (w : World) (a b : Int) (t : Nat) : Txts (w.alloc (.cells #[S a, S b] t)) w.heap.size [a, b] := by
  refine ⟨by simp, fun i h => ?_⟩
  match i, h with
  | 0, _ => rw [World.cell?_alloc_at _ _ _ _ rfl]; rfl
  | 1, _ => rw [World.cell?_alloc_at _ _ _ _ rfl]; rfl

theorem alloc_below (w : World) (o : Obj) : Below w.heap.size w (w.alloc o) := (Below.refl _ _).alloc (Nat.le_refl _) _

theorem dg_le_itoa (n : Int) : (dg n).length ≤ (itoa n).length := by
  by_cases h : n < 0
  · rw [itoa_neg h]; simp [dg]
  · rw [Mb.itoa_nonneg (by omega)]; exact Nat.le_refl _

theorem itoa_bd {n : Int} {k : Nat} (h : (itoa n).length ≤ k) (hk : 1 ≤ k) : -(10 ^ k : Nat) < n ∧ n < (10 ^ k : Nat) := by
  have h1 : (decDigits n.natAbs).length ≤ k := Nat.le_trans (dg_le_itoa n) h
  have h2 := (decDigits_len_le hk).1 h1
  omega

set_option maxHeartbeats 400000 in
theorem mul_short (a b : Int) (w : World) (hg : Good w) (ha : (itoa a).length ≤ 9) (hb : (itoa b).length ≤ 9) :
    Calls Tryz.prog 73 #[S a, S b] w fun e w' => e = .returned (.tuple #[S (a * b), .int .i64 0]) ∧ Below w.heap.size w w' := by
  have ba := itoa_bd ha (by omega)
  have bb := itoa_bd hb (by omega)
  have hda : (dg a).length ≤ 1024 := by have := dg_le_itoa a; omega
  have hdb : (dg b).length ≤ 1024 := by have := dg_le_itoa b; omega
  have hprod : -1000000000000000000 ≤ a * b ∧ a * b ≤ 1000000000000000000 := by
    have := Mb.mul_bd (A := 1000000000) (C := 1000000000) (a := a) (b := b) (by omega) (by omega)
    omega
  go_enter Tryz.func73, Tryz.ntmps73
  go_wp2_with fail
  refine (all_calls [a, b] _ _ _ (txts2 w a b _) (by simp [hda, hdb]) (by simp)).mono ?_
  rintro e w1 ⟨rfl, hb1⟩
  go_wp2_with fail
  refine (small_yes a b _ ha hb).mono ?_
  rintro e w2 ⟨rfl, hb2⟩
  have hbb := below_trans (below_trans (alloc_below w _) hb1) hb2
  go_wp2_with fail
  refine (result_calls _ _ (hg.to hbb) (by omega) (by omega)).mono ?_
  rintro e w3 ⟨rfl, hb3⟩
  go_wp2_with fail
  go_ret2
  exact ⟨rfl, below_trans hbb hb3⟩

set_option maxHeartbeats 400000 in
theorem add_short (a b : Int) (w : World) (hg : Good w) (ha : (itoa a).length ≤ 9) (hb : (itoa b).length ≤ 9) :
    Calls Tryz.prog 74 #[S a, S b] w fun e w' => e = .returned (.tuple #[S (a + b), .int .i64 0]) ∧ Below w.heap.size w w' := by
  have ba := itoa_bd ha (by omega)
  have bb := itoa_bd hb (by omega)
  have hda : (dg a).length ≤ 1024 := by have := dg_le_itoa a; omega
  have hdb : (dg b).length ≤ 1024 := by have := dg_le_itoa b; omega
  go_enter Tryz.func74, Tryz.ntmps74
  go_wp2_with fail
  refine (all_calls [a, b] _ _ _ (txts2 w a b _) (by simp [hda, hdb]) (by simp)).mono ?_
  rintro e w1 ⟨rfl, hb1⟩
  go_wp2_with fail
  refine (small_yes a b _ ha hb).mono ?_
  rintro e w2 ⟨rfl, hb2⟩
  have hbb := below_trans (below_trans (alloc_below w _) hb1) hb2
  go_wp2_with fail
  refine (result_calls _ _ (hg.to hbb) (by omega) (by omega)).mono ?_
  rintro e w3 ⟨rfl, hb3⟩
  go_wp2_with fail
  go_ret2
  exact ⟨rfl, below_trans hbb hb3⟩

theorem itoa_zero {n : Int} (h : n ≠ 0) : (itoa n == [48]) = false := by
  rw [beq_eq_false_iff_ne]
  intro e
  apply h
  exact itoa_inj (e.trans (show [48] = itoa 0 by rw [Mb.itoa_nonneg (by omega)]; rw [show (0 : Int).natAbs = 0 from rfl, decDigits]; rfl))

theorem quo_facts {a b : Int} (h0 : 0 ≤ a) (h1 : 0 < b) : 0 ≤ a / b ∧ a / b ≤ a ∧ 0 ≤ a % b ∧ a % b < b ∧ (!decide (a % b < 0) == decide (b < 0)) = false := by
  have h2 := Int.emod_nonneg a (show b ≠ 0 by omega)
  have h3 := Int.emod_lt_of_pos a h1
  refine ⟨Int.ediv_nonneg h0 (by omega), Int.ediv_le_self _ h0, h2, h3, ?_⟩
  rw [decide_eq_false (by omega), decide_eq_false (by omega)]; rfl

set_option maxHeartbeats 800000 in
/-- short numbers, the divisor positive -/
theorem parted_short (a b : Int) (w : World) (hg : Good w) (ha : (itoa a).length ≤ 9) (hb : (itoa b).length ≤ 9) (h0 : 0 ≤ a) (h1 : 0 < b) :
    Calls Tryz.prog 200 #[S a, S b] w fun e w' => e = .returned (.tuple #[S (a / b), S (a % b), .int .i64 0]) ∧ Below w.heap.size w w' := by
  have ba := itoa_bd ha (by omega)
  have bb := itoa_bd hb (by omega)
  have hda : (dg a).length ≤ 1024 := by have := dg_le_itoa a; omega
  have hdb : (dg b).length ≤ 1024 := by have := dg_le_itoa b; omega
  have hz := itoa_zero (n := b) (by omega)
  obtain ⟨q1, q2, r1, r2, hs⟩ := quo_facts h0 h1
  go_enter Tryz.func200, Tryz.ntmps200
  go_wp2_with fail
  refine (all_calls [a, b] _ _ _ (txts2 w a b _) (by simp [hda, hdb]) (by simp)).mono ?_
  rintro e w1 ⟨rfl, hb1⟩
  go_wp2_with fail
  refine (small_yes a b _ ha hb).mono ?_
  rintro e w2 ⟨rfl, hb2⟩
  have hbb := below_trans (below_trans (alloc_below w _) hb1) hb2
  go_wp2_with fail
  go_quiet (fail)
  go_wp2_with fail
  all_goals
    refine (of_calls _ _ (hg.to (below_trans hbb (bel_dn _ _))) (by omega) (by omega)).mono ?_
    rintro e w3 ⟨rfl, hb3⟩
    go_wp2_with fail
    refine (of_calls _ _ ((hg.to (below_trans hbb (bel_dn _ _))).to hb3) (by omega) (by omega)).mono ?_
    rintro e w4 ⟨rfl, hb4⟩
    go_wp2_with fail
    go_ret3
    exact ⟨by first | rfl | (have h : a % b = 0 := by assumption
                             rw [h]; rfl), below_trans (below_trans (below_trans hbb (bel_dn _ _)) hb3) hb4⟩

end Go.Proofs.YtgdlfjofefhdoaaGreatDoor
