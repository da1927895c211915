/- Package whole: carry: a multiple of one magnitude is added to another. Package whole: beyond, plus of magnitudes that are not negative, times. -/
import Derived.Test.YtgdlfjofefhdoaaGreatDoorWhA
namespace Go.Proofs.YtgdlfjofefhdoaaGreatDoor
open Go.RowKit Go.Sort Go.Lib Mb

/-- the program's division and its mending give the floor -/
theorem floor_pos {s q r : Int} (hq : q = s.tdiv 1000000000) (hr : r = s - q * 1000000000) (h : 0 ≤ r) (hb : -2000000000000000000 ≤ s ∧ s ≤ 2000000000000000000) : q = s / B ∧ r = s % B := by
  unfold B
  by_cases h0 : 0 ≤ s
  · rw [Int.tdiv_eq_ediv_of_nonneg h0] at hq; omega
  · have h1 : s.tdiv 1000000000 = -((-s) / 1000000000) := by
      have := Int.neg_tdiv (a := -s) (b := 1000000000)
      rw [Int.neg_neg] at this
      rw [this, Int.tdiv_eq_ediv_of_nonneg (by omega)]
    rw [h1] at hq; omega
theorem floor_neg {s q r : Int} (hq : q = s.tdiv 1000000000) (hr : r = s - q * 1000000000) (h : r < 0) (hb : -2000000000000000000 ≤ s ∧ s ≤ 2000000000000000000) : q - 1 = s / B ∧ r + 1000000000 = s % B := by
  unfold B
  by_cases h0 : 0 ≤ s
  · rw [Int.tdiv_eq_ediv_of_nonneg h0] at hq; omega
  · have h1 : s.tdiv 1000000000 = -((-s) / 1000000000) := by
      have := Int.neg_tdiv (a := -s) (b := 1000000000)
      rw [Int.neg_neg] at this
      rw [this, Int.tdiv_eq_ediv_of_nonneg (by omega)]
    rw [h1] at hq; omega

set_option maxRecDepth 100000 in
set_option maxHeartbeats 3200000 in
theorem carry_calls (bx by' : Nat) (lx ly : Bool) (xn yn : Nat) (x0 y : Nat → Int) (fac : Int) (up : Nat) (w : World) (hX : Wide w bx lx xn x0) (hY : Wide w by' ly yn y) (hne : bx ≠ by') (hx : Mag x0 xn) (hy : Mag y yn) (hf : -(B - 1) ≤ fac ∧ fac ≤ B - 1)
    (hu : up + yn ≤ 232) (h0 : 0 ≤ val (sh x0 up) (232 - up) + fac * val y yn) (h1 : val (sh x0 up) (232 - up) + fac * val y yn < B ^ (232 - up)) :
    Calls Tryz.prog 153 #[.pointer (some ⟨bx, 0, none⟩), .pointer (some ⟨by', 0, none⟩), .int .i64 fac, .int .i64 up] w fun e w' => e = .returned (.tuple #[]) ∧
      (∃ m f, Mag f m ∧ val f m = val x0 xn + fac * val y yn * B ^ up ∧ Wide w' bx lx m f) ∧ w.grownBy w' (some bx) := by
  have HH := Lib.hid (And.intro h0 (And.intro h1 (And.intro hx (And.intro hy (And.intro hf hX))))); clear h0 h1 hx hy hf hX
  have HY := Lib.hid hY; clear hY
  go_enter Tryz.func153, Tryz.ntmps153
  go_wp2_with fail
  go_loopg [8, 9] (232 - up) (fun g rv iv wr => ∃ (k nx : Nat) (rest : Int) (x : Nat → Int), k + up + g = 232 ∧ rv = .int .i64 rest ∧ iv = .int .i64 k ∧ Carry x0 y yn fac up k rest x ∧ Wide wr bx lx nx x ∧ nx ≤ 232 ∧ xn ≤ nx ∧ (0 < k → up + k ≤ nx) ∧ (∀ i, nx ≤ i → x i = 0) ∧ w.grownBy wr (some bx))
  case atStart => exact ⟨0, xn, 0, x0, by omega, rfl, rfl, Carry.start HH.out.2.2.1.wd, HH.out.2.2.2.2.2, HH.out.2.2.1.le, Nat.le_refl _, fun h => absurd h (Nat.lt_irrefl _), HH.out.2.2.1.z, gb_refl _ _⟩
  case round =>
    obtain ⟨k, nx, rest, x, hk, rfl, rfl, hC, hW, hn, hxn, hkn, hz, hg⟩ := hrel
    have hYw := HY.out.grown hg (by simp; omega)
    have cyn := hYw.c1
    by_cases hky : k < yn
    · have hj232 : up + k < 232 := by omega
      have hwd := hC.wd (up + k)
      have hrb := hC.rb
      obtain ⟨j, hj⟩ : ∃ j, j = up + k := ⟨_, rfl⟩
      rw [← hj] at hwd hj232
      have cxj := hW.cw j hj232
      have fxj := hW.free (2 + j)
      obtain ⟨v, hv⟩ : ∃ v, x j = v := ⟨_, rfl⟩
      rw [hv] at hwd cxj
      have cyk := hYw.cw k (by have := HH.out.2.2.2.1.le; omega)
      have hyb := HH.out.2.2.2.1.wd k
      obtain ⟨u, hu'⟩ : ∃ u, y k = u := ⟨_, rfl⟩
      rw [hu'] at hyb cyk
      have hpb := mulbd HH.out.2.2.2.2.1 hyb
      obtain ⟨t, ht⟩ : ∃ t, fac * u = t := ⟨_, rfl⟩
      rw [ht] at hpb
      have a3 : IntKind.i64.wrap (fac * u) = t := by rw [ht]; exact IntWalk.i64_in _ (by unfold B at hpb; omega)
      have i3 : ((k : Int) < (yn : Int)) := by omega
      have i4 : (k : Int) < 232 := by have := HH.out.2.2.2.1.le; omega
      have hst : Carry x0 y yn fac up (k + 1) ((v + rest + t) / B) (upd x (up + k) ((v + rest + t) % B)) := hC.step (fun h => HH.out.2.2.2.1.wd k) HH.out.2.2.2.2.1 _ (by rw [if_pos hky, hu', ht, ← hj, hv])
      rw [← hj] at hst
      obtain ⟨s1, hs1⟩ : ∃ s1, v + rest = s1 := ⟨_, rfl⟩
      obtain ⟨s, hs⟩ : ∃ s, s1 + t = s := ⟨_, rfl⟩
      rw [hs1, hs] at hst
      have hsb : -2000000000000000000 ≤ s ∧ s ≤ 2000000000000000000 := by unfold B at *; omega
      have a1 : IntKind.i64.wrap ((k : Int) + (up : Int)) = (j : Int) := by rw [IntWalk.i64_in _ (by omega)]; omega
      have a2 : IntKind.i64.wrap (v + rest) = s1 := by rw [hs1]; exact IntWalk.i64_in _ (by unfold B at *; omega)
      have a4 : IntKind.i64.wrap (s1 + t) = s := by rw [hs]; exact IntWalk.i64_in _ (by omega)
      obtain ⟨q, hq⟩ : ∃ q, s.tdiv 1000000000 = q := ⟨_, rfl⟩
      have hqb : -2000000001 ≤ q ∧ q ≤ 2000000001 := by
        have e1 : (-(2000000000000000000 : Int)).tdiv 1000000000 ≤ q := by rw [← hq]; exact Int.tdiv_le_tdiv (by decide) (by omega)
        have e2 : q ≤ (2000000000000000000 : Int).tdiv 1000000000 := by rw [← hq]; exact Int.tdiv_le_tdiv (by decide) (by omega)
        have e3 : (-(2000000000000000000 : Int)).tdiv 1000000000 = -2000000000 := by decide
        have e4 : (2000000000000000000 : Int).tdiv 1000000000 = 2000000000 := by decide
        omega
      have b1 : IntKind.i64.wrap q = q := IntWalk.i64_in _ (by omega)
      obtain ⟨qb, hqb'⟩ : ∃ qb, q * 1000000000 = qb := ⟨_, rfl⟩
      obtain ⟨r, hr⟩ : ∃ r, s - qb = r := ⟨_, rfl⟩
      have hrb2 : -1000000000 < r ∧ r < 1000000000 := by
        have := Int.tmod_lt_of_pos s (b := 1000000000) (by decide)
        have h2 := Int.lt_tmod_of_pos s (b := 1000000000) (by decide)
        have h3 := Int.tmod_add_mul_tdiv s 1000000000
        rw [hq] at h3
        omega
      have b2 : IntKind.i64.wrap (q * 1000000000) = qb := by rw [hqb']; exact IntWalk.i64_in _ (by omega)
      have b3 : IntKind.i64.wrap (s - qb) = r := by rw [hr]; exact IntWalk.i64_in _ (by omega)
      have b5 : IntKind.i64.wrap (r + 1000000000) = r + 1000000000 := IntWalk.i64_in _ (by omega)
      have b6 : IntKind.i64.wrap (q - 1) = q - 1 := IntWalk.i64_in _ (by omega)
      have i1 : (0 : Int) ≤ (j : Int) := by omega
      have i2 : (j : Int) < 232 := by omega
      have i5 : (0 : Int) ≤ (k : Int) := by omega
      have a9 : IntKind.i64.wrap ((j : Int) + 1) = (j : Int) + 1 := IntWalk.i64_in _ (by omega)
      have a10 : IntKind.i64.wrap ((k : Int) + 1) = (k : Int) + 1 := IntWalk.i64_in _ (by omega)
      obtain ⟨nx', hnx'⟩ : ∃ m : Nat, max nx (j + 1) = m := ⟨_, rfl⟩
      have hmax : max (nx : Int) ((j : Int) + 1) = (nx' : Int) := by omega
      have hfq : 0 ≤ r → q = s / B ∧ r = s % B := fun h => floor_pos hq.symm (by rw [hqb']; exact hr.symm) h hsb
      have hfn : r < 0 → q - 1 = s / B ∧ r + 1000000000 = s % B := fun h => floor_neg hq.symm (by rw [hqb']; exact hr.symm) h hsb
      have HW := Lib.hid (And.intro hW (And.intro hj232 (And.intro hst (And.intro hnx' (And.intro hj (And.intro hg (And.intro hxn (And.intro hz hn))))))))
      have HK := Lib.hid (And.intro hk hrb2)
      have HF := Lib.hid (And.intro hfq hfn)
      have c1x := hW.c1
      have f1x := hW.free 1
      clear hW hst hnx' hj hg hxn hz hn hC hkn hrb hwd hpb hsb hs1 hs hqb hqb' hr hv hfq hfn hk ht hYw HY hyb hu'
      by_cases hrn : 0 ≤ r
      · have hrn2 : ¬ r < 0 := by omega
        have e1 := (HW.out.1.setW j HW.out.2.1 r).c1
        have e2 := (HW.out.1.setW j HW.out.2.1 r).free 1
        go_wp2_with fail
        go_roundg (232 - up - (k + 1))
        case measure => have := HK.out.1; omega
        case rel =>
          obtain ⟨hW, hj232, hst, hnx', hj, hg, hxn, hz, hn⟩ := HW.out
          have hF := HF.out.1 hrn
          refine ⟨k + 1, nx', s / B, upd x j (s % B), by have := HK.out.1; omega, by rw [hF.1], by go_num, hst, by rw [← hF.2]; exact (hW.setW j hj232 _).setN nx', by omega, by omega, fun _ => by omega, fun i hi => ?_, gb_trans hg (gb_trans (gb_set _ _ _ _) (gb_set _ _ _ _))⟩
          rw [upd_other (by omega)]
          exact hz i (by omega)
      · have hrn2 : r < 0 := by omega
        have e1 := (HW.out.1.setW j HW.out.2.1 (r + 1000000000)).c1
        have e2 := (HW.out.1.setW j HW.out.2.1 (r + 1000000000)).free 1
        go_wp2_with fail
        go_roundg (232 - up - (k + 1))
        case measure => have := HK.out.1; omega
        case rel =>
          obtain ⟨hW, hj232, hst, hnx', hj, hg, hxn, hz, hn⟩ := HW.out
          have hF := HF.out.2 hrn2
          refine ⟨k + 1, nx', s / B, upd x j (s % B), by have := HK.out.1; omega, by rw [hF.1], by go_num, hst, by rw [← hF.2]; exact (hW.setW j hj232 _).setN nx', by omega, by omega, fun _ => by omega, fun i hi => ?_, gb_trans hg (gb_trans (gb_set _ _ _ _) (gb_set _ _ _ _))⟩
          rw [upd_other (by omega)]
          exact hz i (by omega)
    · by_cases hr0 : rest = 0
      · subst hr0
        have hres : val x nx = val x0 xn + fac * val y yn * B ^ up := by
          by_cases hk0 : k = 0
          · subst hk0
            have hy0 : yn = 0 := by omega
            rw [hy0]
            have : val x nx = val x0 xn := by
              rw [show val x nx = val x0 nx from val_congr (fun i _ => hC.same i (by omega))]
              exact val_ext hxn (fun i a _ => HH.out.2.2.1.z i a)
            rw [this]; simp [val]
          · exact hC.done (by omega) nx hxn (hkn (by omega)) HH.out.2.2.1.z
        have HR := Lib.hid (And.intro hW (And.intro (⟨hn, hC.wd, hz⟩ : Pre x nx) (And.intro hres hg)))
        have i3 : ¬ ((k : Int) < (yn : Int)) := by omega
        clear hW hres hg hC hz hkn hxn hn
        go_wp2_with fail
        refine (trimmed_calls _ _ _ _ _ HR.out.1 HR.out.2.1).mono ?_
        rintro e w2 ⟨rfl, hw2, hg2⟩
        have HE := Lib.hid (And.intro hw2 hg2)
        clear hw2 hg2
        go_wp2_with fail
        go_end0
        obtain ⟨⟨m, hm, hv, hW2⟩, hg2⟩ := HE.out
        exact ⟨rfl, ⟨m, x, hm, hv.trans HR.out.2.2.1, hW2⟩, gb_trans HR.out.2.2.2 hg2⟩
      · have hub : up + k < 232 := by
          rcases Nat.lt_or_ge (up + k) 232 with h | h
          · exact h
          · exfalso
            have e : k = 232 - up := by omega
            exact hr0 (hC.rest_zero (by omega) (by rw [e]; exact HH.out.1) (by rw [e]; exact HH.out.2.1))
        have hj232 : up + k < 232 := by omega
        have hwd := hC.wd (up + k)
        have hrb := hC.rb
        obtain ⟨j, hj⟩ : ∃ j, j = up + k := ⟨_, rfl⟩
        rw [← hj] at hwd hj232
        have cxj := hW.cw j hj232
        have fxj := hW.free (2 + j)
        obtain ⟨v, hv⟩ : ∃ v, x j = v := ⟨_, rfl⟩
        rw [hv] at hwd cxj
        obtain ⟨t, ht⟩ : ∃ t : Int, t = 0 := ⟨_, rfl⟩
        have hpb : -((B - 1) * (B - 1)) ≤ t ∧ t ≤ (B - 1) * (B - 1) := by rw [ht]; decide
        have i3 : ¬ ((k : Int) < (yn : Int)) := by omega
        have hst : Carry x0 y yn fac up (k + 1) ((v + rest + t) / B) (upd x (up + k) ((v + rest + t) % B)) := hC.step (fun h => absurd h hky) HH.out.2.2.2.2.1 _ (by rw [if_neg hky, ← hj, hv, ht])
        rw [← hj] at hst
        obtain ⟨s1, hs1⟩ : ∃ s1, v + rest = s1 := ⟨_, rfl⟩
        obtain ⟨s, hs⟩ : ∃ s, s1 + t = s := ⟨_, rfl⟩
        rw [hs1, hs] at hst
        have hsb : -2000000000000000000 ≤ s ∧ s ≤ 2000000000000000000 := by unfold B at *; omega
        have a1 : IntKind.i64.wrap ((k : Int) + (up : Int)) = (j : Int) := by rw [IntWalk.i64_in _ (by omega)]; omega
        have a2 : IntKind.i64.wrap (v + rest) = s1 := by rw [hs1]; exact IntWalk.i64_in _ (by unfold B at *; omega)
        have e0 : s = s1 := by omega
        subst e0
        obtain ⟨q, hq⟩ : ∃ q, s.tdiv 1000000000 = q := ⟨_, rfl⟩
        have hqb : -2000000001 ≤ q ∧ q ≤ 2000000001 := by
          have e1 : (-(2000000000000000000 : Int)).tdiv 1000000000 ≤ q := by rw [← hq]; exact Int.tdiv_le_tdiv (by decide) (by omega)
          have e2 : q ≤ (2000000000000000000 : Int).tdiv 1000000000 := by rw [← hq]; exact Int.tdiv_le_tdiv (by decide) (by omega)
          have e3 : (-(2000000000000000000 : Int)).tdiv 1000000000 = -2000000000 := by decide
          have e4 : (2000000000000000000 : Int).tdiv 1000000000 = 2000000000 := by decide
          omega
        have b1 : IntKind.i64.wrap q = q := IntWalk.i64_in _ (by omega)
        obtain ⟨qb, hqb'⟩ : ∃ qb, q * 1000000000 = qb := ⟨_, rfl⟩
        obtain ⟨r, hr⟩ : ∃ r, s - qb = r := ⟨_, rfl⟩
        have hrb2 : -1000000000 < r ∧ r < 1000000000 := by
          have := Int.tmod_lt_of_pos s (b := 1000000000) (by decide)
          have h2 := Int.lt_tmod_of_pos s (b := 1000000000) (by decide)
          have h3 := Int.tmod_add_mul_tdiv s 1000000000
          rw [hq] at h3
          omega
        have b2 : IntKind.i64.wrap (q * 1000000000) = qb := by rw [hqb']; exact IntWalk.i64_in _ (by omega)
        have b3 : IntKind.i64.wrap (s - qb) = r := by rw [hr]; exact IntWalk.i64_in _ (by omega)
        have b5 : IntKind.i64.wrap (r + 1000000000) = r + 1000000000 := IntWalk.i64_in _ (by omega)
        have b6 : IntKind.i64.wrap (q - 1) = q - 1 := IntWalk.i64_in _ (by omega)
        have i1 : (0 : Int) ≤ (j : Int) := by omega
        have i2 : (j : Int) < 232 := by omega
        have i5 : (0 : Int) ≤ (k : Int) := by omega
        have a9 : IntKind.i64.wrap ((j : Int) + 1) = (j : Int) + 1 := IntWalk.i64_in _ (by omega)
        have a10 : IntKind.i64.wrap ((k : Int) + 1) = (k : Int) + 1 := IntWalk.i64_in _ (by omega)
        obtain ⟨nx', hnx'⟩ : ∃ m : Nat, max nx (j + 1) = m := ⟨_, rfl⟩
        have hmax : max (nx : Int) ((j : Int) + 1) = (nx' : Int) := by omega
        have hfq : 0 ≤ r → q = s / B ∧ r = s % B := fun h => floor_pos hq.symm (by rw [hqb']; exact hr.symm) h hsb
        have hfn : r < 0 → q - 1 = s / B ∧ r + 1000000000 = s % B := fun h => floor_neg hq.symm (by rw [hqb']; exact hr.symm) h hsb
        have HW := Lib.hid (And.intro hW (And.intro hj232 (And.intro hst (And.intro hnx' (And.intro hj (And.intro hg (And.intro hxn (And.intro hz hn))))))))
        have HK := Lib.hid (And.intro hk hrb2)
        have HF := Lib.hid (And.intro hfq hfn)
        have c1x := hW.c1
        have f1x := hW.free 1
        clear hW hst hnx' hj hg hxn hz hn hC hkn hrb hwd hpb hsb hs1 hs hqb hqb' hr hv hfq hfn hk ht hYw HY
        by_cases hrn : 0 ≤ r
        · have hrn2 : ¬ r < 0 := by omega
          have e1 := (HW.out.1.setW j HW.out.2.1 r).c1
          have e2 := (HW.out.1.setW j HW.out.2.1 r).free 1
          go_wp2_with fail
          go_roundg (232 - up - (k + 1))
          case measure => have := HK.out.1; omega
          case rel =>
            obtain ⟨hW, hj232, hst, hnx', hj, hg, hxn, hz, hn⟩ := HW.out
            have hF := HF.out.1 hrn
            refine ⟨k + 1, nx', s / B, upd x j (s % B), by have := HK.out.1; omega, by rw [hF.1], by go_num, hst, by rw [← hF.2]; exact (hW.setW j hj232 _).setN nx', by omega, by omega, fun _ => by omega, fun i hi => ?_, gb_trans hg (gb_trans (gb_set _ _ _ _) (gb_set _ _ _ _))⟩
            rw [upd_other (by omega)]
            exact hz i (by omega)
        · have hrn2 : r < 0 := by omega
          have e1 := (HW.out.1.setW j HW.out.2.1 (r + 1000000000)).c1
          have e2 := (HW.out.1.setW j HW.out.2.1 (r + 1000000000)).free 1
          go_wp2_with fail
          go_roundg (232 - up - (k + 1))
          case measure => have := HK.out.1; omega
          case rel =>
            obtain ⟨hW, hj232, hst, hnx', hj, hg, hxn, hz, hn⟩ := HW.out
            have hF := HF.out.2 hrn2
            refine ⟨k + 1, nx', s / B, upd x j (s % B), by have := HK.out.1; omega, by rw [hF.1], by go_num, hst, by rw [← hF.2]; exact (hW.setW j hj232 _).setN nx', by omega, by omega, fun _ => by omega, fun i hi => ?_, gb_trans hg (gb_trans (gb_set _ _ _ _) (gb_set _ _ _ _))⟩
            rw [upd_other (by omega)]
            exact hz i (by omega)

end Go.Proofs.YtgdlfjofefhdoaaGreatDoor

namespace Go.Proofs.YtgdlfjofefhdoaaGreatDoor
open Go.RowKit Go.Sort Go.Lib Mb

set_option maxRecDepth 100000 in
set_option maxHeartbeats 1600000 in
theorem beyond_calls (bx by' : Nat) (lx ly : Bool) (n m : Nat) (f g : Nat → Int) (w : World) (hX : Wide w bx lx n f) (hY : Wide w by' ly m g) (hf : Mag f n) (hg : Mag g m) :
    Calls Tryz.prog 181 #[.pointer (some ⟨bx, 0, none⟩), .pointer (some ⟨by', 0, none⟩)] w fun e w' => (∃ r : Int, e = .returned (.int .i64 r) ∧ (0 ≤ r ↔ val g m ≤ val f n)) ∧ Below w.heap.size w w' := by
  have c1 := hX.c1
  have c2 := hY.c1
  have HX := Lib.hid (And.intro hX (And.intro hY (And.intro hf hg))); clear hX hY
  have hn := hf.le
  have hm := hg.le
  have i1 : IntKind.i64.wrap ((n : Int) - m) = (n : Int) - m := IntWalk.i64_in _ (by omega)
  by_cases hnm : n = m
  · subst hnm
    have hb : ((n : Int) == (n : Int)) = true := by simp
    have i2 : IntKind.i64.wrap ((n : Int) - 1) = (n : Int) - 1 := IntWalk.i64_in _ (by omega)
    clear hf hg
    go_enter Tryz.func181, Tryz.ntmps181
    go_wp2_with fail
    go_quiet (fail)
    have HQ := Lib.hid (bel_dn w nq)
    obtain ⟨w1, hw1⟩ : ∃ w1, w1 = w.drewN nq := ⟨_, rfl⟩
    rw [← hw1] at HQ ⊢
    have c3 : w1.cell? ⟨bx, 1, none⟩ = some (.int .i64 n) := by rw [hw1]; exact c1
    clear hw1 c1 c2
    go_wp2_with fail
    go_loopg [5] n (fun k v wr => v = .int .i64 ((k : Int) - 1) ∧ k ≤ n ∧ (∀ i, k ≤ i → i < n → f i = g i) ∧ Below w.heap.size w wr)
    case atStart => exact ⟨rfl, Nat.le_refl _, fun i h1 h2 => by omega, HQ.out⟩
    case round =>
      clear c3
      obtain ⟨rfl, hk, hall, hbel⟩ := hrel
      have HA := Lib.hid (And.intro hall hbel); clear hall hbel
      by_cases hk0 : gk = 0
      · subst hk0
        go_wp2_with fail
        go_ret
        refine ⟨⟨0, rfl, ?_⟩, HA.out.2⟩
        have : val f n = val g n := val_congr fun i hi => HA.out.1 i (Nat.zero_le _) hi
        omega
      · obtain ⟨k, rfl⟩ : ∃ k, gk = k + 1 := ⟨gk - 1, by omega⟩
        have k1 := (HX.out.1.to HA.out.2).cw k (by omega)
        have k2 := (HX.out.2.1.to HA.out.2).cw k (by omega)
        have hfw := HX.out.2.2.1.wd k
        have hgw := HX.out.2.2.2.wd k
        obtain ⟨a, ha⟩ : ∃ a, f k = a := ⟨_, rfl⟩
        obtain ⟨b, hb'⟩ : ∃ b, g k = b := ⟨_, rfl⟩
        rw [ha] at k1 hfw
        rw [hb'] at k2 hgw
        have i3 : (0 : Int) ≤ (k : Int) := by omega
        have i4 : (k : Int) < 232 := by omega
        have i5 : IntKind.i64.wrap (a - b) = a - b := IntWalk.i64_in _ (by unfold B at *; omega)
        have i6 : IntKind.i64.wrap ((k : Int) - 1) = (k : Int) - 1 := IntWalk.i64_in _ (by omega)
        have HK := Lib.hid (And.intro ha hb'); clear ha hb' hfw hgw hk0
        by_cases hab : a = b
        · subst hab
          have hb2 : (a == a) = true := by simp
          go_wp2_with fail
          go_quiet (fail)
          go_wp2_with fail
          go_roundg k
          case measure => omega
          case rel =>
            refine ⟨by go_num, by omega, fun i h1 h2 => ?_, below_trans HA.out.2 (bel_dn _ _)⟩
            by_cases e : i = k
            · subst e; rw [HK.out.1, HK.out.2]
            · exact HA.out.1 i (by omega) h2
        · have hb2 : (a == b) = false := by simpa using hab
          go_wp2_with fail
          go_quiet (fail)
          go_wp2_with fail
          go_quiet (fail)
          go_wp2_with fail
          go_ret
          refine ⟨⟨a - b, rfl, ?_⟩, below_trans HA.out.2 (by first | exact bel_dn _ _ | exact below_trans (bel_dn _ _) (bel_dn _ _))⟩
          have := cmp_w HX.out.2.2.1 HX.out.2.2.2 (k := k) (by omega) (fun i h1 h2 => HA.out.1 i (by omega) h2) (by rw [HK.out.1, HK.out.2]; exact hab)
          rw [HK.out.1, HK.out.2] at this
          exact this
  · have hb : ((n : Int) == (m : Int)) = false := by simp; omega
    have HC := Lib.hid (cmp_n hf hg hnm); clear hf hg
    go_enter Tryz.func181, Tryz.ntmps181
    go_wp2_with fail
    go_quiet (fail)
    go_wp2_with fail
    go_quiet (fail)
    go_wp2_with fail
    go_ret
    exact ⟨⟨(n : Int) - m, rfl, HC.out⟩, by first | exact bel_dn _ _ | exact below_trans (bel_dn _ _) (bel_dn _ _)⟩

theorem carry_room {x0 y : Nat → Int} {xn yn up : Nat} {fac : Int} (hx : Mag x0 xn) (hy : Mag y yn) (hf : 0 ≤ fac) (hu : up ≤ 232) (h : val x0 xn + fac * val y yn * B ^ up < B ^ 232) :
    0 ≤ val (sh x0 up) (232 - up) + fac * val y yn ∧ val (sh x0 up) (232 - up) + fac * val y yn < B ^ (232 - up) := by
  have h1 := val_split x0 up (232 - up)
  rw [show up + (232 - up) = 232 by omega, hx.ext (m := 232) hx.le] at h1
  have h2 := val_bd (f := x0) (k := up) (fun i _ => hx.wd i)
  have h3 := val_bd (f := sh x0 up) (k := 232 - up) (fun i _ => hx.wd _)
  have h4 := hy.bd.1
  have h5 : 0 ≤ fac * val y yn := Int.mul_nonneg hf h4
  have hp := pow_pos' up
  refine ⟨by omega, ?_⟩
  have h6 : (val (sh x0 up) (232 - up) + fac * val y yn) * B ^ up < B ^ (232 - up) * B ^ up := by
    rw [← Int.pow_add, show 232 - up + up = 232 by omega, Int.add_mul]
    omega
  exact Int.lt_of_mul_lt_mul_right h6 (by omega)

/-- carry of what is not negative and fits the room -/
theorem carryp_calls (bx by' : Nat) (lx ly : Bool) (xn yn : Nat) (x0 y : Nat → Int) (fac : Int) (up : Nat) (w : World) (hX : Wide w bx lx xn x0) (hY : Wide w by' ly yn y) (hne : bx ≠ by') (hx : Mag x0 xn) (hy : Mag y yn) (hf : 0 ≤ fac ∧ fac ≤ B - 1)
    (hu : up + yn ≤ 232) (h : val x0 xn + fac * val y yn * B ^ up < B ^ 232) :
    Calls Tryz.prog 153 #[.pointer (some ⟨bx, 0, none⟩), .pointer (some ⟨by', 0, none⟩), .int .i64 fac, .int .i64 up] w fun e w' => e = .returned (.tuple #[]) ∧
      (∃ m f, Mag f m ∧ val f m = val x0 xn + fac * val y yn * B ^ up ∧ Wide w' bx lx m f) ∧ w.grownBy w' (some bx) :=
  carry_calls bx by' lx ly xn yn x0 y fac up w hX hY hne hx hy ⟨by unfold B at *; omega, hf.2⟩ hu (carry_room hx hy hf.1 (by omega) h).1 (carry_room hx hy hf.1 (by omega) h).2

set_option maxHeartbeats 1600000 in
theorem plus_calls (bx by' : Nat) (xn yn : Nat) (x0 y : Nat → Int) (w : World) (hX : Wide w bx false xn x0) (hY : Wide w by' false yn y) (hne : bx ≠ by') (hx : Mag x0 xn) (hy : Mag y yn) (h : val x0 xn + val y yn < B ^ 232) :
    Calls Tryz.prog 155 #[.pointer (some ⟨bx, 0, none⟩), .pointer (some ⟨by', 0, none⟩)] w fun e w' => e = .returned (.tuple #[]) ∧
      (∃ m f, Mag f m ∧ val f m = val x0 xn + val y yn ∧ Wide w' bx false m f) ∧ w.grownBy w' (some bx) := by
  have H : ∀ q, Calls Tryz.prog 153 #[.pointer (some ⟨bx, 0, none⟩), .pointer (some ⟨by', 0, none⟩), .int .i64 1, .int .i64 0] (w.drewN q) fun e w' => e = .returned (.tuple #[]) ∧
      ((∃ m f, Mag f m ∧ val f m = val x0 xn + val y yn ∧ Wide w' bx false m f) ∧ w.grownBy w' (some bx)) := fun q =>
    (carryp_calls bx by' false false xn yn x0 y 1 0 _ (hX.drewN q) (hY.drewN q) hne hx hy ⟨by decide, by decide⟩ (by have := hy.le; omega) (by simpa using h)).mono fun e w' ⟨he, ⟨m, f, h1, h2, h3⟩, h4⟩ => ⟨he, ⟨m, f, h1, by simpa using h2, h3⟩, gb_trans (gb_dn w q _) h4⟩
  have c1 := hX.c0
  have c2 := hY.c0
  clear hX hY hx hy h
  go_enter Tryz.func155, Tryz.ntmps155
  go_wp2_with fail
  go_quiet (fail)
  go_wp2_with fail
  refine (H nq).mono ?_
  rintro e w1 ⟨rfl, h1⟩
  have H1 := Lib.hid h1; clear h1 H
  go_wp2_with fail
  refine bodyPost_ret (results_none rfl _ _ _) rfl ?_
  exact ⟨rfl, H1.out⟩

theorem val_mono {f : Nat → Int} (hf : ∀ i, 0 ≤ f i ∧ f i < B) (k : Nat) : val f k ≤ val f (k + 1) := by
  have h1 := (hf k).1
  have h2 := pow_pos' k
  have : 0 ≤ f k * B ^ k := Int.mul_nonneg h1 (by omega)
  simp only [val]; omega

set_option maxRecDepth 100000 in
set_option maxHeartbeats 3200000 in
theorem times_calls (bx by' : Nat) (lx ly : Bool) (xn yn : Nat) (x y : Nat → Int) (w : World) (hX : Wide w bx lx xn x) (hY : Wide w by' ly yn y) (hx : Mag x xn) (hy : Mag y yn) (hu : xn + yn ≤ 232) :
    Calls Tryz.prog 124 #[.pointer (some ⟨bx, 0, none⟩), .pointer (some ⟨by', 0, none⟩)] w fun e w' => ∃ b m f, e = .returned (.pointer (some ⟨b, 0, none⟩)) ∧ w.heap.size ≤ b ∧ Mag f m ∧ val f m = val x xn * val y yn ∧ Wide w' b (lx != ly) m f ∧ Below w.heap.size w w' := by
  have c1 := hX.c0
  have c2 := hY.c0
  have HX := Lib.hid (And.intro hX (And.intro hY (And.intro hx hy))); clear hX hY hx hy
  go_enter Tryz.func124, Tryz.ntmps124
  go_wp2_with fail
  go_region
  rw [zero_set]
  obtain ⟨w1, hw1⟩ : ∃ w1, w1 = (w.alloc (.cells (wc (!(lx == ly)) 0 (fun _ => 0)) 193)).drew := ⟨_, rfl⟩
  rw [← hw1]
  have hW : Wide w1 w.heap.size (!(lx == ly)) 0 (fun _ => 0) := by rw [hw1]; exact (wide_new _ _ _ _).drew
  have hB : Below w.heap.size w w1 := by rw [hw1]; exact (alloc_below _ _).drew
  clear hw1 c1 c2
  obtain ⟨b, hb⟩ : ∃ b, b = w.heap.size := ⟨_, rfl⟩
  rw [← hb] at hW ⊢
  have HB := Lib.hid hb; clear hb
  have c3 := (HX.out.2.1.to hB).c1
  have hyn := HX.out.2.2.2.le
  go_wp2_with fail
  go_loopg [22] yn (fun g v wr => ∃ (i m : Nat) (f : Nat → Int), i + g = yn ∧ v = .int .i64 i ∧ Mag f m ∧ val f m = val x xn * val y i ∧ Wide wr b (!(lx == ly)) m f ∧ Below w.heap.size w wr)
  case atStart => exact ⟨0, 0, fun _ => 0, Nat.zero_add _, rfl, Mag.zero, by simp [val], hW, hB⟩
  case round =>
    clear c3 hW hB
    obtain ⟨i, m, f, hi, rfl, hm, hv, hW, hbel⟩ := hrel
    by_cases hlt : i < yn
    · have k1 := (HX.out.2.1.to hbel).cw i (by omega)
      have hyi := HX.out.2.2.2.wd i
      have hx0 := HX.out.2.2.1.bd
      have hne : b ≠ bx := by have := HX.out.1.lt; rw [HB.out]; omega
      have hnew : val f m + y i * val x xn * B ^ i = val x xn * val y (i + 1) := by
        rw [hv]
        simp only [val]
        grind
      have hroom : val f m + y i * val x xn * B ^ i < B ^ 232 := by
        rw [hnew]
        have h1 := (val_bd (f := y) (k := i + 1) (fun j _ => HX.out.2.2.2.wd j))
        have h2 : val x xn * val y (i + 1) ≤ val x xn * B ^ (i + 1) := Int.mul_le_mul_of_nonneg_left (by omega) hx0.1
        have h3 : val x xn * B ^ (i + 1) < B ^ xn * B ^ (i + 1) := Int.mul_lt_mul_of_pos_right hx0.2 (pow_pos' _)
        have h4 : B ^ xn * B ^ (i + 1) = B ^ (xn + (i + 1)) := (Int.pow_add _ _ _).symm
        have h5 := pow_mono (show xn + (i + 1) ≤ 232 by omega)
        omega
      have H := carryp_calls b bx (!(lx == ly)) lx m xn f x (y i) i wr hW (HX.out.1.to hbel) hne hm HX.out.2.2.1 ⟨hyi.1, by omega⟩ (by omega) hroom
      rw [hnew] at H
      have HBel := Lib.hid hbel
      obtain ⟨yi, hyi'⟩ : ∃ yi, y i = yi := ⟨_, rfl⟩
      rw [hyi'] at k1 H
      clear hyi hx0 hnew hroom hyi' hW hbel hv hm hne
      have i1 : (i : Int) < (yn : Int) := by omega
      have i2 : (0 : Int) ≤ (i : Int) := by omega
      have i3 : (i : Int) < 232 := by omega
      go_wp2_with fail
      refine H.mono ?_
      rintro e w2 ⟨rfl, h1, h2⟩
      have H2 := Lib.hid (And.intro h1 h2); clear h1 h2 H
      go_wp2_with fail
      go_roundg (yn - i - 1)
      case measure => omega
      case rel =>
        obtain ⟨⟨m', f', hm', hv', hW'⟩, hg'⟩ := H2.out
        exact ⟨i + 1, m', f', by omega, by go_num, hm', hv', hW', below_gb HBel.out hg' HBel.out.size (by rw [HB.out]; exact Nat.le_refl _)⟩
    · have hiy : i = yn := by omega
      subst hiy
      have HF := Lib.hid (And.intro hm (And.intro hv (And.intro hW hbel)))
      clear hm hv hW hbel
      go_wp2_with fail
      go_ret
      exact ⟨b, m, f, rfl, by rw [HB.out]; exact Nat.le_refl _, HF.out.1, HF.out.2.1, HF.out.2.2.1, HF.out.2.2.2⟩

end Go.Proofs.YtgdlfjofefhdoaaGreatDoor
