/- Package whole: carry: a multiple of one magnitude is added to another. -/
import Derived.Test.YtgdlfjofefhdoaaGreatDoorRead
namespace Go.Proofs.YtgdlfjofefhdoaaGreatDoor
open Go.RowKit Go.Sort Go.Lib Mb

/-- the program's division and its mending give the floor -/
theorem floor_pos {s q r : Int} (hq : q = s.tdiv 1000000000) (hr : r = s - q * 1000000000) (h : 0 ≤ r) (hb : -2000000000000000000 ≤ s ∧ s ≤ 2000000000000000000) : q = s / B ∧ r = s % B := by
  unfold B
  by_cases h0 : 0 ≤ s
  · rw [Int.tdiv_eq_ediv_of_nonneg h0] at hq; omega
  · have h1 : s.tdiv 1000000000 = -((-s) / 1000000000) := by
      have := Int.neg_tdiv (a := -s) (b := 1000000000)
      rw [Int.neg_neg] at this
      rw [this, Int.tdiv_eq_ediv_of_nonneg (by omega)]
    rw [h1] at hq; omega
theorem floor_neg {s q r : Int} (hq : q = s.tdiv 1000000000) (hr : r = s - q * 1000000000) (h : r < 0) (hb : -2000000000000000000 ≤ s ∧ s ≤ 2000000000000000000) : q - 1 = s / B ∧ r + 1000000000 = s % B := by
  unfold B
  by_cases h0 : 0 ≤ s
  · rw [Int.tdiv_eq_ediv_of_nonneg h0] at hq; omega
  · have h1 : s.tdiv 1000000000 = -((-s) / 1000000000) := by
      have := Int.neg_tdiv (a := -s) (b := 1000000000)
      rw [Int.neg_neg] at this
      rw [this, Int.tdiv_eq_ediv_of_nonneg (by omega)]
    rw [h1] at hq; omega

set_option maxRecDepth 100000 in
set_option maxHeartbeats 3200000 in
theorem carry_calls (bx by' : Nat) (lx ly : Bool) (xn yn : Nat) (x0 y : Nat → Int) (fac : Int) (up : Nat) (w : World) (hX : Wide w bx lx xn x0) (hY : Wide w by' ly yn y) (hne : bx ≠ by') (hx : Mag x0 xn) (hy : Mag y yn) (hf : -(B - 1) ≤ fac ∧ fac ≤ B - 1)
    (hu : up + yn ≤ 232) (h0 : 0 ≤ val (sh x0 up) (232 - up) + fac * val y yn) (h1 : val (sh x0 up) (232 - up) + fac * val y yn < B ^ (232 - up)) :
    Calls Tryz.prog 153 #[.pointer (some ⟨bx, 0, none⟩), .pointer (some ⟨by', 0, none⟩), .int .i64 fac, .int .i64 up] w fun e w' => e = .returned (.tuple #[]) ∧
      (∃ m f, Mag f m ∧ val f m = val x0 xn + fac * val y yn * B ^ up ∧ Wide w' bx lx m f) ∧ w.grownBy w' (some bx) := by
  have HH := Lib.hid (And.intro h0 (And.intro h1 (And.intro hx (And.intro hy (And.intro hf hX))))); clear h0 h1 hx hy hf hX
  have HY := Lib.hid hY; clear hY
  go_enter Tryz.func153, Tryz.ntmps153
  go_wp2_with fail
  go_loopg [8, 9] (232 - up) (fun g rv iv wr => ∃ (k nx : Nat) (rest : Int) (x : Nat → Int), k + up + g = 232 ∧ rv = .int .i64 rest ∧ iv = .int .i64 k ∧ Carry x0 y yn fac up k rest x ∧ Wide wr bx lx nx x ∧ nx ≤ 232 ∧ xn ≤ nx ∧ (0 < k → up + k ≤ nx) ∧ (∀ i, nx ≤ i → x i = 0) ∧ w.grownBy wr (some bx))
  case atStart => exact ⟨0, xn, 0, x0, by omega, rfl, rfl, Carry.start HH.out.2.2.1.wd, HH.out.2.2.2.2.2, HH.out.2.2.1.le, Nat.le_refl _, fun h => absurd h (Nat.lt_irrefl _), HH.out.2.2.1.z, gb_refl _ _⟩
  case round =>
    obtain ⟨k, nx, rest, x, hk, rfl, rfl, hC, hW, hn, hxn, hkn, hz, hg⟩ := hrel
    have hYw := HY.out.grown hg (by simp; omega)
    have cyn := hYw.c1
    by_cases hky : k < yn
    · have hj232 : up + k < 232 := by omega
      have hwd := hC.wd (up + k)
      have hrb := hC.rb
      obtain ⟨j, hj⟩ : ∃ j, j = up + k := ⟨_, rfl⟩
      rw [← hj] at hwd hj232
      have cxj := hW.cw j hj232
      have fxj := hW.free (2 + j)
      obtain ⟨v, hv⟩ : ∃ v, x j = v := ⟨_, rfl⟩
      rw [hv] at hwd cxj
      have cyk := hYw.cw k (by have := HH.out.2.2.2.1.le; omega)
      have hyb := HH.out.2.2.2.1.wd k
      obtain ⟨u, hu'⟩ : ∃ u, y k = u := ⟨_, rfl⟩
      rw [hu'] at hyb cyk
      have hpb := mulbd HH.out.2.2.2.2.1 hyb
      obtain ⟨t, ht⟩ : ∃ t, fac * u = t := ⟨_, rfl⟩
      rw [ht] at hpb
      have a3 : IntKind.i64.wrap (fac * u) = t := by rw [ht]; exact IntWalk.i64_in _ (by unfold B at hpb; omega)
      have i3 : ((k : Int) < (yn : Int)) := by omega
      have i4 : (k : Int) < 232 := by have := HH.out.2.2.2.1.le; omega
      have hst : Carry x0 y yn fac up (k + 1) ((v + rest + t) / B) (upd x (up + k) ((v + rest + t) % B)) := hC.step (fun h => HH.out.2.2.2.1.wd k) HH.out.2.2.2.2.1 _ (by rw [if_pos hky, hu', ht, ← hj, hv])
      rw [← hj] at hst
      obtain ⟨s1, hs1⟩ : ∃ s1, v + rest = s1 := ⟨_, rfl⟩
      obtain ⟨s, hs⟩ : ∃ s, s1 + t = s := ⟨_, rfl⟩
      rw [hs1, hs] at hst
      have hsb : -2000000000000000000 ≤ s ∧ s ≤ 2000000000000000000 := by unfold B at *; omega
      have a1 : IntKind.i64.wrap ((k : Int) + (up : Int)) = (j : Int) := by rw [IntWalk.i64_in _ (by omega)]; omega
      have a2 : IntKind.i64.wrap (v + rest) = s1 := by rw [hs1]; exact IntWalk.i64_in _ (by unfold B at *; omega)
      have a4 : IntKind.i64.wrap (s1 + t) = s := by rw [hs]; exact IntWalk.i64_in _ (by omega)
      obtain ⟨q, hq⟩ : ∃ q, s.tdiv 1000000000 = q := ⟨_, rfl⟩
      have hqb : -2000000001 ≤ q ∧ q ≤ 2000000001 := by
        have e1 : (-(2000000000000000000 : Int)).tdiv 1000000000 ≤ q := by rw [← hq]; exact Int.tdiv_le_tdiv (by decide) (by omega)
        have e2 : q ≤ (2000000000000000000 : Int).tdiv 1000000000 := by rw [← hq]; exact Int.tdiv_le_tdiv (by decide) (by omega)
        have e3 : (-(2000000000000000000 : Int)).tdiv 1000000000 = -2000000000 := by decide
        have e4 : (2000000000000000000 : Int).tdiv 1000000000 = 2000000000 := by decide
        omega
      have b1 : IntKind.i64.wrap q = q := IntWalk.i64_in _ (by omega)
      obtain ⟨qb, hqb'⟩ : ∃ qb, q * 1000000000 = qb := ⟨_, rfl⟩
      obtain ⟨r, hr⟩ : ∃ r, s - qb = r := ⟨_, rfl⟩
      have hrb2 : -1000000000 < r ∧ r < 1000000000 := by
        have := Int.tmod_lt_of_pos s (b := 1000000000) (by decide)
        have h2 := Int.lt_tmod_of_pos s (b := 1000000000) (by decide)
        have h3 := Int.tmod_add_mul_tdiv s 1000000000
        rw [hq] at h3
        omega
      have b2 : IntKind.i64.wrap (q * 1000000000) = qb := by rw [hqb']; exact IntWalk.i64_in _ (by omega)
      have b3 : IntKind.i64.wrap (s - qb) = r := by rw [hr]; exact IntWalk.i64_in _ (by omega)
      have b5 : IntKind.i64.wrap (r + 1000000000) = r + 1000000000 := IntWalk.i64_in _ (by omega)
      have b6 : IntKind.i64.wrap (q - 1) = q - 1 := IntWalk.i64_in _ (by omega)
      have i1 : (0 : Int) ≤ (j : Int) := by omega
      have i2 : (j : Int) < 232 := by omega
      have i5 : (0 : Int) ≤ (k : Int) := by omega
      have a9 : IntKind.i64.wrap ((j : Int) + 1) = (j : Int) + 1 := IntWalk.i64_in _ (by omega)
      have a10 : IntKind.i64.wrap ((k : Int) + 1) = (k : Int) + 1 := IntWalk.i64_in _ (by omega)
      obtain ⟨nx', hnx'⟩ : ∃ m : Nat, max nx (j + 1) = m := ⟨_, rfl⟩
      have hmax : max (nx : Int) ((j : Int) + 1) = (nx' : Int) := by omega
      have hfq : 0 ≤ r → q = s / B ∧ r = s % B := fun h => floor_pos hq.symm (by rw [hqb']; exact hr.symm) h hsb
      have hfn : r < 0 → q - 1 = s / B ∧ r + 1000000000 = s % B := fun h => floor_neg hq.symm (by rw [hqb']; exact hr.symm) h hsb
      have HW := Lib.hid (And.intro hW (And.intro hj232 (And.intro hst (And.intro hnx' (And.intro hj (And.intro hg (And.intro hxn (And.intro hz hn))))))))
      have HK := Lib.hid (And.intro hk hrb2)
      have HF := Lib.hid (And.intro hfq hfn)
      have c1x := hW.c1
      have f1x := hW.free 1
      clear hW hst hnx' hj hg hxn hz hn hC hkn hrb hwd hpb hsb hs1 hs hqb hqb' hr hv hfq hfn hk ht hYw HY hyb hu'
      by_cases hrn : 0 ≤ r
      · have hrn2 : ¬ r < 0 := by omega
        have e1 := (HW.out.1.setW j HW.out.2.1 r).c1
        have e2 := (HW.out.1.setW j HW.out.2.1 r).free 1
        go_wp2_with fail
        go_roundg (232 - up - (k + 1))
        case measure => have := HK.out.1; omega
        case rel =>
          obtain ⟨hW, hj232, hst, hnx', hj, hg, hxn, hz, hn⟩ := HW.out
          have hF := HF.out.1 hrn
          refine ⟨k + 1, nx', s / B, upd x j (s % B), by have := HK.out.1; omega, by rw [hF.1], by go_num, hst, by rw [← hF.2]; exact (hW.setW j hj232 _).setN nx', by omega, by omega, fun _ => by omega, fun i hi => ?_, gb_trans hg (gb_trans (gb_set _ _ _ _) (gb_set _ _ _ _))⟩
          rw [upd_other (by omega)]
          exact hz i (by omega)
      · have hrn2 : r < 0 := by omega
        have e1 := (HW.out.1.setW j HW.out.2.1 (r + 1000000000)).c1
        have e2 := (HW.out.1.setW j HW.out.2.1 (r + 1000000000)).free 1
        go_wp2_with fail
        go_roundg (232 - up - (k + 1))
        case measure => have := HK.out.1; omega
        case rel =>
          obtain ⟨hW, hj232, hst, hnx', hj, hg, hxn, hz, hn⟩ := HW.out
          have hF := HF.out.2 hrn2
          refine ⟨k + 1, nx', s / B, upd x j (s % B), by have := HK.out.1; omega, by rw [hF.1], by go_num, hst, by rw [← hF.2]; exact (hW.setW j hj232 _).setN nx', by omega, by omega, fun _ => by omega, fun i hi => ?_, gb_trans hg (gb_trans (gb_set _ _ _ _) (gb_set _ _ _ _))⟩
          rw [upd_other (by omega)]
          exact hz i (by omega)
    · by_cases hr0 : rest = 0
      · subst hr0
        have hres : val x nx = val x0 xn + fac * val y yn * B ^ up := by
          by_cases hk0 : k = 0
          · subst hk0
            have hy0 : yn = 0 := by omega
            rw [hy0]
            have : val x nx = val x0 xn := by
              rw [show val x nx = val x0 nx from val_congr (fun i _ => hC.same i (by omega))]
              exact val_ext hxn (fun i a _ => HH.out.2.2.1.z i a)
            rw [this]; simp [val]
          · exact hC.done (by omega) nx hxn (hkn (by omega)) HH.out.2.2.1.z
        have HR := Lib.hid (And.intro hW (And.intro (⟨hn, hC.wd, hz⟩ : Pre x nx) (And.intro hres hg)))
        have i3 : ¬ ((k : Int) < (yn : Int)) := by omega
        clear hW hres hg hC hz hkn hxn hn
        go_wp2_with fail
        refine (trimmed_calls _ _ _ _ _ HR.out.1 HR.out.2.1).mono ?_
        rintro e w2 ⟨rfl, hw2, hg2⟩
        have HE := Lib.hid (And.intro hw2 hg2)
        clear hw2 hg2
        go_wp2_with fail
        go_end0
        obtain ⟨⟨m, hm, hv, hW2⟩, hg2⟩ := HE.out
        exact ⟨rfl, ⟨m, x, hm, hv.trans HR.out.2.2.1, hW2⟩, gb_trans HR.out.2.2.2 hg2⟩
      · have hub : up + k < 232 := by
          rcases Nat.lt_or_ge (up + k) 232 with h | h
          · exact h
          · exfalso
            have e : k = 232 - up := by omega
            exact hr0 (hC.rest_zero (by omega) (by rw [e]; exact HH.out.1) (by rw [e]; exact HH.out.2.1))
        have hj232 : up + k < 232 := by omega
        have hwd := hC.wd (up + k)
        have hrb := hC.rb
        obtain ⟨j, hj⟩ : ∃ j, j = up + k := ⟨_, rfl⟩
        rw [← hj] at hwd hj232
        have cxj := hW.cw j hj232
        have fxj := hW.free (2 + j)
        obtain ⟨v, hv⟩ : ∃ v, x j = v := ⟨_, rfl⟩
        rw [hv] at hwd cxj
        obtain ⟨t, ht⟩ : ∃ t : Int, t = 0 := ⟨_, rfl⟩
        have hpb : -((B - 1) * (B - 1)) ≤ t ∧ t ≤ (B - 1) * (B - 1) := by rw [ht]; decide
        have i3 : ¬ ((k : Int) < (yn : Int)) := by omega
        have hst : Carry x0 y yn fac up (k + 1) ((v + rest + t) / B) (upd x (up + k) ((v + rest + t) % B)) := hC.step (fun h => absurd h hky) HH.out.2.2.2.2.1 _ (by rw [if_neg hky, ← hj, hv, ht])
        rw [← hj] at hst
        obtain ⟨s1, hs1⟩ : ∃ s1, v + rest = s1 := ⟨_, rfl⟩
        obtain ⟨s, hs⟩ : ∃ s, s1 + t = s := ⟨_, rfl⟩
        rw [hs1, hs] at hst
        have hsb : -2000000000000000000 ≤ s ∧ s ≤ 2000000000000000000 := by unfold B at *; omega
        have a1 : IntKind.i64.wrap ((k : Int) + (up : Int)) = (j : Int) := by rw [IntWalk.i64_in _ (by omega)]; omega
        have a2 : IntKind.i64.wrap (v + rest) = s1 := by rw [hs1]; exact IntWalk.i64_in _ (by unfold B at *; omega)
        have e0 : s = s1 := by omega
        subst e0
        obtain ⟨q, hq⟩ : ∃ q, s.tdiv 1000000000 = q := ⟨_, rfl⟩
        have hqb : -2000000001 ≤ q ∧ q ≤ 2000000001 := by
          have e1 : (-(2000000000000000000 : Int)).tdiv 1000000000 ≤ q := by rw [← hq]; exact Int.tdiv_le_tdiv (by decide) (by omega)
          have e2 : q ≤ (2000000000000000000 : Int).tdiv 1000000000 := by rw [← hq]; exact Int.tdiv_le_tdiv (by decide) (by omega)
          have e3 : (-(2000000000000000000 : Int)).tdiv 1000000000 = -2000000000 := by decide
          have e4 : (2000000000000000000 : Int).tdiv 1000000000 = 2000000000 := by decide
          omega
        have b1 : IntKind.i64.wrap q = q := IntWalk.i64_in _ (by omega)
        obtain ⟨qb, hqb'⟩ : ∃ qb, q * 1000000000 = qb := ⟨_, rfl⟩
        obtain ⟨r, hr⟩ : ∃ r, s - qb = r := ⟨_, rfl⟩
        have hrb2 : -1000000000 < r ∧ r < 1000000000 := by
          have := Int.tmod_lt_of_pos s (b := 1000000000) (by decide)
          have h2 := Int.lt_tmod_of_pos s (b := 1000000000) (by decide)
          have h3 := Int.tmod_add_mul_tdiv s 1000000000
          rw [hq] at h3
          omega
        have b2 : IntKind.i64.wrap (q * 1000000000) = qb := by rw [hqb']; exact IntWalk.i64_in _ (by omega)
        have b3 : IntKind.i64.wrap (s - qb) = r := by rw [hr]; exact IntWalk.i64_in _ (by omega)
        have b5 : IntKind.i64.wrap (r + 1000000000) = r + 1000000000 := IntWalk.i64_in _ (by omega)
        have b6 : IntKind.i64.wrap (q - 1) = q - 1 := IntWalk.i64_in _ (by omega)
        have i1 : (0 : Int) ≤ (j : Int) := by omega
        have i2 : (j : Int) < 232 := by omega
        have i5 : (0 : Int) ≤ (k : Int) := by omega
        have a9 : IntKind.i64.wrap ((j : Int) + 1) = (j : Int) + 1 := IntWalk.i64_in _ (by omega)
        have a10 : IntKind.i64.wrap ((k : Int) + 1) = (k : Int) + 1 := IntWalk.i64_in _ (by omega)
        obtain ⟨nx', hnx'⟩ : ∃ m : Nat, max nx (j + 1) = m := ⟨_, rfl⟩
        have hmax : max (nx : Int) ((j : Int) + 1) = (nx' : Int) := by omega
        have hfq : 0 ≤ r → q = s / B ∧ r = s % B := fun h => floor_pos hq.symm (by rw [hqb']; exact hr.symm) h hsb
        have hfn : r < 0 → q - 1 = s / B ∧ r + 1000000000 = s % B := fun h => floor_neg hq.symm (by rw [hqb']; exact hr.symm) h hsb
        have HW := Lib.hid (And.intro hW (And.intro hj232 (And.intro hst (And.intro hnx' (And.intro hj (And.intro hg (And.intro hxn (And.intro hz hn))))))))
        have HK := Lib.hid (And.intro hk hrb2)
        have HF := Lib.hid (And.intro hfq hfn)
        have c1x := hW.c1
        have f1x := hW.free 1
        clear hW hst hnx' hj hg hxn hz hn hC hkn hrb hwd hpb hsb hs1 hs hqb hqb' hr hv hfq hfn hk ht hYw HY
        by_cases hrn : 0 ≤ r
        · have hrn2 : ¬ r < 0 := by omega
          have e1 := (HW.out.1.setW j HW.out.2.1 r).c1
          have e2 := (HW.out.1.setW j HW.out.2.1 r).free 1
          go_wp2_with fail
          go_roundg (232 - up - (k + 1))
          case measure => have := HK.out.1; omega
          case rel =>
            obtain ⟨hW, hj232, hst, hnx', hj, hg, hxn, hz, hn⟩ := HW.out
            have hF := HF.out.1 hrn
            refine ⟨k + 1, nx', s / B, upd x j (s % B), by have := HK.out.1; omega, by rw [hF.1], by go_num, hst, by rw [← hF.2]; exact (hW.setW j hj232 _).setN nx', by omega, by omega, fun _ => by omega, fun i hi => ?_, gb_trans hg (gb_trans (gb_set _ _ _ _) (gb_set _ _ _ _))⟩
            rw [upd_other (by omega)]
            exact hz i (by omega)
        · have hrn2 : r < 0 := by omega
          have e1 := (HW.out.1.setW j HW.out.2.1 (r + 1000000000)).c1
          have e2 := (HW.out.1.setW j HW.out.2.1 (r + 1000000000)).free 1
          go_wp2_with fail
          go_roundg (232 - up - (k + 1))
          case measure => have := HK.out.1; omega
          case rel =>
            obtain ⟨hW, hj232, hst, hnx', hj, hg, hxn, hz, hn⟩ := HW.out
            have hF := HF.out.2 hrn2
            refine ⟨k + 1, nx', s / B, upd x j (s % B), by have := HK.out.1; omega, by rw [hF.1], by go_num, hst, by rw [← hF.2]; exact (hW.setW j hj232 _).setN nx', by omega, by omega, fun _ => by omega, fun i hi => ?_, gb_trans hg (gb_trans (gb_set _ _ _ _) (gb_set _ _ _ _))⟩
            rw [upd_other (by omega)]
            exact hz i (by omega)

end Go.Proofs.YtgdlfjofefhdoaaGreatDoor
