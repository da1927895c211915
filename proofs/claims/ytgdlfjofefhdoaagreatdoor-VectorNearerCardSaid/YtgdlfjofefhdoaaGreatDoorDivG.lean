/- Package whole: estimate: how often a magnitude may be taken away. -/
import Derived.Test.YtgdlfjofefhdoaaGreatDoorMulG
namespace Go.Proofs.YtgdlfjofefhdoaaGreatDoor
open Go.RowKit Go.Sort Go.Lib Mb

set_option maxRecDepth 100000 in
set_option maxHeartbeats 800000 in
theorem top_calls (b n i : Nat) (less : Bool) (f : Nat → Int) (w : World) (hW : Wide w b less n f) (hm : Mag f n) :
    Calls Tryz.prog 233 #[.pointer (some ⟨b, 0, none⟩), .int .i64 i] w fun e w' => e = .returned (.int .i64 (f i)) ∧ w = w' := by
  have c1 := hW.c1
  have hle := hm.le
  have z0 : ¬ ((i : Int) < 0) := by omega
  by_cases hi : i < n
  · have cw := hW.cw i (by omega)
    have i1 : ¬ ((n : Int) ≤ (i : Int)) := by omega
    have i2 : (i : Int) < 232 := by omega
    have i3 : (0 : Int) ≤ (i : Int) := by omega
    clear hW hm
    go_enter Tryz.func233, Tryz.ntmps233
    go_wp2_with fail
    go_ret
    exact ⟨rfl, rfl⟩
  · have hz := hm.z i (by omega)
    rw [hz]
    have i1 : ((n : Int) ≤ (i : Int)) := by omega
    clear hW hm hz
    go_enter Tryz.func233, Tryz.ntmps233
    go_wp2_with fail
    go_ret
    exact ⟨rfl, rfl⟩

set_option maxRecDepth 100000 in
set_option maxHeartbeats 1600000 in
theorem estimate_calls (bx by' rn yn : Nat) (lx ly : Bool) (r y : Nat → Int) (w : World) (hX : Wide w bx lx rn r) (hY : Wide w by' ly (yn + 1) y) (hr : Mag r rn) (hy : Mag y (yn + 1)) (hle : val y (yn + 1) ≤ val r rn) (hlt : val r rn < B * val y (yn + 1)) :
    Calls Tryz.prog 213 #[.pointer (some ⟨bx, 0, none⟩), .pointer (some ⟨by', 0, none⟩)] w fun e w' => (∃ k : Int, e = .returned (.int .i64 k) ∧ 1 ≤ k ∧ k ≤ B - 1 ∧ k * val y (yn + 1) ≤ val r rn) ∧ Below w.heap.size w w' := by
  obtain ⟨b1, b2, a1, a2, e1, e2, e3⟩ := est_ok hr hy hle hlt (r (yn + 1) * B + r yn) (y yn + if 1 < yn + 1 then 1 else 0) rfl rfl
  have q1 : ∀ d, Calls Tryz.prog 233 #[.pointer (some ⟨bx, 0, none⟩), .int .i64 ((yn : Int) + 1)] (w.drewN d) fun e w'' => e = .returned (.int .i64 (r (yn + 1))) ∧ ∃ m, w'' = w.drewN m := fun d => (top_calls bx rn (yn + 1) lx r _ (hX.drewN d) hr).mono fun e w' ⟨h, hw⟩ => ⟨h, d, hw.symm⟩
  have q2 : ∀ d, Calls Tryz.prog 233 #[.pointer (some ⟨bx, 0, none⟩), .int .i64 (yn : Int)] (w.drewN d) fun e w'' => e = .returned (.int .i64 (r yn)) ∧ ∃ m, w'' = w.drewN m := fun d => (top_calls bx rn yn lx r _ (hX.drewN d) hr).mono fun e w' ⟨h, hw⟩ => ⟨h, d, hw.symm⟩
  have q3 : ∀ d, Calls Tryz.prog 233 #[.pointer (some ⟨by', 0, none⟩), .int .i64 (yn : Int)] (w.drewN d) fun e w'' => e = .returned (.int .i64 (y yn)) ∧ ∃ m, w'' = w.drewN m := fun d => (top_calls by' (yn + 1) yn ly y _ (hY.drewN d) hy).mono fun e w' ⟨h, hw⟩ => ⟨h, d, hw.symm⟩
  have c1 := hY.c1
  have hyn := hy.le
  have hr1 := hr.wd (yn + 1)
  have hr0 := hr.wd yn
  have hy0 := hy.wd yn
  obtain ⟨u, hu⟩ : ∃ u, r (yn + 1) = u := ⟨_, rfl⟩
  obtain ⟨v, hv⟩ : ∃ v, r yn = v := ⟨_, rfl⟩
  obtain ⟨t, ht⟩ : ∃ t, y yn = t := ⟨_, rfl⟩
  rw [hu] at hr1 q1 e1 e2 e3 a1 a2
  rw [hv] at hr0 q2 e1 e2 e3 a1 a2
  rw [ht] at hy0 q3 b1 b2 e1 e2 e3
  obtain ⟨Y, hY'⟩ : ∃ Y, val y (yn + 1) = Y := ⟨_, rfl⟩
  obtain ⟨R, hR'⟩ : ∃ R, val r rn = R := ⟨_, rfl⟩
  rw [hY', hR'] at e3 ⊢
  clear hu hv ht hY' hR' hX hY hr hy hle hlt
  have w1 : IntKind.i64.wrap (u * 1000000000) = u * 1000000000 := IntWalk.i64_in _ (by unfold B at *; omega)
  have w2 : IntKind.i64.wrap (u * 1000000000 + v) = u * 1000000000 + v := IntWalk.i64_in _ (by unfold B at *; omega)
  have w3 : IntKind.i64.wrap (yn : Int) = (yn : Int) := IntWalk.i64_in _ (by omega)
  have w4 : IntKind.i64.wrap (t + 1) = t + 1 := IntWalk.i64_in _ (by unfold B at *; omega)
  go_enter Tryz.func213, Tryz.ntmps213
  go_wp2_with fail
  go_quiet (first | with_reducible exact q1 _ | with_reducible exact q2 _ | with_reducible exact q3 _)
  by_cases hy1 : 1 < yn + 1
  · have w6 : (1 : Int) < (yn : Int) + 1 := by omega
    have w7 : 0 < yn := by omega
    obtain ⟨A, hA⟩ : ∃ A, u * 1000000000 + v = A := ⟨_, rfl⟩
    rw [hA]
    have hAB : u * B + v = A := by unfold B; exact hA
    rw [hAB, if_pos hy1] at e1 e2 e3
    rw [hAB] at a1 a2
    have hd1 : 1 ≤ t + 1 := by omega
    have hq : A.tdiv (t + 1) = A / (t + 1) := Int.tdiv_eq_ediv_of_nonneg a1
    have hq0 : 0 ≤ A / (t + 1) := Int.ediv_nonneg a1 (by omega)
    have hq1 : A / (t + 1) ≤ A := Int.ediv_le_self _ a1
    have hnz : t + 1 ≠ 0 := by omega
    have hnz2 : (t + 1 == 0) = false := by rw [beq_eq_false_iff_ne]; exact hnz
    obtain ⟨q, hqq⟩ : ∃ q, A / (t + 1) = q := ⟨_, rfl⟩
    rw [hqq] at hq hq0 hq1
    have w5 : IntKind.i64.wrap q = q := IntWalk.i64_in _ (by unfold B at *; omega)
    have hest : est A (t + 1) = if 0 < q then min q (B - 1) else 1 := by unfold est; rw [hqq]
    rw [hest] at e1 e2 e3
    clear hest hqq hA hAB a1 a2
    by_cases hp : 0 < q
    · rw [if_pos hp] at e1 e2 e3
      obtain ⟨k, hk⟩ : ∃ k, min q 999999999 = k := ⟨_, rfl⟩
      have hk2 : min q (B - 1) = k := hk
      rw [hk2] at e1 e2 e3
      have HE := Lib.hid (And.intro e1 (And.intro e2 e3)); clear e1 e2 e3 hk2
      go_wp2_with fail
      go_ret
      exact ⟨⟨_, by first | rfl | (rw [hk]), HE.out.1, HE.out.2.1, HE.out.2.2⟩, bel_dn w nq⟩
    · rw [if_neg hp] at e1 e2 e3
      have HE := Lib.hid (And.intro e1 (And.intro e2 e3)); clear e1 e2 e3
      go_wp2_with fail
      go_ret
      exact ⟨⟨1, rfl, HE.out.1, HE.out.2.1, HE.out.2.2⟩, bel_dn w nq⟩
  · have w6 : ¬ (1 : Int) < (yn : Int) + 1 := by omega
    have w7 : yn = 0 := by omega
    obtain ⟨A, hA⟩ : ∃ A, u * 1000000000 + v = A := ⟨_, rfl⟩
    rw [hA]
    have hAB : u * B + v = A := by unfold B; exact hA
    rw [hAB, if_neg hy1, Int.add_zero] at e1 e2 e3
    rw [hAB] at a1 a2
    have hd1 : 1 ≤ t := by omega
    have hq : A.tdiv (t) = A / (t) := Int.tdiv_eq_ediv_of_nonneg a1
    have hq0 : 0 ≤ A / (t) := Int.ediv_nonneg a1 (by omega)
    have hq1 : A / (t) ≤ A := Int.ediv_le_self _ a1
    have hnz : t ≠ 0 := by omega
    have hnz2 : (t == 0) = false := by rw [beq_eq_false_iff_ne]; exact hnz
    obtain ⟨q, hqq⟩ : ∃ q, A / (t) = q := ⟨_, rfl⟩
    rw [hqq] at hq hq0 hq1
    have w5 : IntKind.i64.wrap q = q := IntWalk.i64_in _ (by unfold B at *; omega)
    have hest : est A (t) = if 0 < q then min q (B - 1) else 1 := by unfold est; rw [hqq]
    rw [hest] at e1 e2 e3
    clear hest hqq hA hAB a1 a2
    by_cases hp : 0 < q
    · rw [if_pos hp] at e1 e2 e3
      obtain ⟨k, hk⟩ : ∃ k, min q 999999999 = k := ⟨_, rfl⟩
      have hk2 : min q (B - 1) = k := hk
      rw [hk2] at e1 e2 e3
      have HE := Lib.hid (And.intro e1 (And.intro e2 e3)); clear e1 e2 e3 hk2
      go_wp2_with fail
      go_ret
      exact ⟨⟨_, by first | rfl | (rw [hk]), HE.out.1, HE.out.2.1, HE.out.2.2⟩, bel_dn w nq⟩
    · rw [if_neg hp] at e1 e2 e3
      have HE := Lib.hid (And.intro e1 (And.intro e2 e3)); clear e1 e2 e3
      go_wp2_with fail
      go_ret
      exact ⟨⟨1, rfl, HE.out.1, HE.out.2.1, HE.out.2.2⟩, bel_dn w nq⟩

end Go.Proofs.YtgdlfjofefhdoaaGreatDoor
