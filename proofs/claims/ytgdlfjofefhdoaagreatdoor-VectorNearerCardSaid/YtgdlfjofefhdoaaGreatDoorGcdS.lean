/- Package whole: Gcd of integers of any size. -/
import Derived.Test.YtgdlfjofefhdoaaGreatDoorQuoS
namespace Go.Proofs.YtgdlfjofefhdoaaGreatDoor
open Go.RowKit Go.Sort Go.Lib Mb

set_option maxRecDepth 100000 in
set_option maxHeartbeats 3200000 in
theorem gcds_calls (a b : Int) (w : World) (hg : Good w) (hda : (dg a).length ≤ 1024) (hdb : (dg b).length ≤ 1024) :
    Calls Tryz.prog 164 #[S a, S b] w fun e w' => e = .returned (.tuple #[S (Int.gcd a b), .int .i64 0]) ∧ Below w.heap.size w w' := by
  have HH := Lib.hid (And.intro hg (And.intro (dg_room hda) (dg_room hdb))); clear hg
  go_enter Tryz.func164, Tryz.ntmps164
  go_wp2_with fail
  refine (all_calls [a, b] _ _ _ (txts2 w a b _) (by simp [hda, hdb]) (by simp)).mono ?_
  rintro e w1 ⟨rfl, hb1⟩
  have H1 := Lib.hid (below_trans (alloc_below w _) hb1); clear hb1
  go_wp2_with fail
  refine (read_calls a _ hda).mono ?_
  rintro e w2 ⟨b1, m1, f1, rfl, hn1, hm1, hv1, hw1, hb2⟩
  have H2 := Lib.hid (And.intro hm1 (And.intro hv1 (And.intro hw1 (And.intro (below_trans H1.out hb2) (show w.heap.size ≤ b1 by have := H1.out.size; omega))))); clear hm1 hv1 hw1 hb2 hn1
  go_wp2_with fail
  refine (read_calls b _ hdb).mono ?_
  rintro e w3 ⟨b2, m2, f2, rfl, hn2, hm2, hv2, hw2, hb3⟩
  have H3 := Lib.hid (And.intro hm2 (And.intro hv2 (And.intro hw2 (And.intro (below_trans H2.out.2.2.2.1 hb3) (And.intro (show w.heap.size ≤ b2 by have := H2.out.2.2.2.1.size; omega) (H2.out.2.2.1.to hb3)))))); clear hm2 hv2 hw2 hb3 hn2
  go_wp2_with fail
  go_loopg [7, 8] (val f2 m2).toNat (fun g p q wr => ∃ (x y mx my : Nat) (fx fy : Nat → Int) (lx ly : Bool), p = .pointer (some ⟨x, 0, none⟩) ∧ q = .pointer (some ⟨y, 0, none⟩) ∧ Mag fx mx ∧ Mag fy my ∧ Wide wr x lx mx fx ∧ Wide wr y ly my fy ∧ Int.gcd (val fx mx) (val fy my) = Int.gcd a b ∧ (val fy my).toNat = g ∧ my ≤ 114 ∧ Below w.heap.size w wr ∧ w.heap.size ≤ x ∧ w.heap.size ≤ y)
  case atStart =>
    refine ⟨b1, b2, m1, m2, f1, f2, _, _, rfl, rfl, H2.out.1, H3.out.1, H3.out.2.2.2.2.2, H3.out.2.2.1, ?_, rfl, mag_words H3.out.1 (by rw [H3.out.2.1]; exact HH.out.2.2), H3.out.2.2.2.1, H2.out.2.2.2.2, H3.out.2.2.2.2.1⟩
    rw [H2.out.2.1, H3.out.2.1]
    simp [Int.gcd]
  case round =>
    obtain ⟨x, y, mx, my, fx, fy, lx, ly, rfl, rfl, hmx, hmy, hWx, hWy, hgcd, hms, hyn, hbel, hnx, hny⟩ := hrel
    have cx1 := hWx.c1
    have cy1 := hWy.c1
    cases my with
    | zero =>
      have fx0 := hWx.free 0
      have cx0 := hWx.c0
      have hv : val fx mx = (Int.gcd a b : Int) := by
        have h0 : val fy 0 = 0 := rfl
        rw [h0, Int.gcd_zero_right] at hgcd
        have := hmx.bd.1
        omega
      have HT := texts_calls x mx false fx (wr.setCell ⟨x, 0, none⟩ (.bool false)) (HH.out.1.to (hbel.setCell (p := ⟨x, 0, none⟩) hnx _)) (hWx.setL false) hmx
      rw [show sv false (val fx mx) = val fx mx from rfl, hv] at HT
      have HB := Lib.hid (hbel.setCell (p := ⟨x, 0, none⟩) hnx (.bool false))
      clear hmx hmy hWx hWy hgcd hms hbel hnx hny hv
      go_wp2_with fail
      refine HT.mono ?_
      rintro e w8 ⟨rfl, hb9⟩
      go_wp2_with fail
      go_ret2
      exact ⟨rfl, below_trans HB.out hb9⟩
    | succ m =>
      have i0 : (0 : Int) < ((m + 1 : Nat) : Int) := by omega
      by_cases hx1 : mx ≤ 1
      · by_cases hy1 : m + 1 ≤ 1
        · have hm0 : m = 0 := by omega
          subst hm0
          have hbx := hmx.wd 0
          have hby := hmy.wd 0
          have cx2 : wr.cell? ⟨x, 2, none⟩ = some (.int .i64 (fx 0)) := hWx.cw 0 (by omega)
          have cy2 : wr.cell? ⟨y, 2, none⟩ = some (.int .i64 (fy 0)) := hWy.cw 0 (by omega)
          have hvx : val fx mx = fx 0 := by rw [← hmx.ext hx1]; simp [val]
          have hvy : val fy 1 = fy 0 := by simp [val]
          obtain ⟨u, hu⟩ : ∃ u, fx 0 = u := ⟨_, rfl⟩
          obtain ⟨v, hv⟩ : ∃ v, fy 0 = v := ⟨_, rfl⟩
          rw [hu] at cx2 hbx hvx
          rw [hv] at cy2 hby hvy
          rw [hvx, hvy] at hgcd
          have hmx1 : (mx : Int) ≤ 1 := by omega
          have HI := Lib.hid (And.intro hgcd hbel)
          clear hu hv hvx hvy hgcd hbel hmx hmy hWx hWy hms hnx hny hyn hx1 hy1
          go_wp2_with fail
          go_quiet (fail)
          go_wp2_with fail
          clear cx1 cy1 cx2 cy2 hmx1
          have hB : B = 1000000000 := rfl
          have hB' := Lib.hid hB; clear hB
          have hbx' : 0 ≤ u ∧ u < 1000000000 := hbx
          have hby' : 0 ≤ v ∧ v < 1000000000 := hby
          clear hbx hby
          go_loopg [9, 10] v.toNat (fun g p q wr' => ∃ i j : Int, p = .int .i64 i ∧ q = .int .i64 j ∧ 0 ≤ i ∧ i < 1000000000 ∧ 0 ≤ j ∧ j < 1000000000 ∧ j.toNat = g ∧ Int.gcd i j = Int.gcd u v ∧ Below w.heap.size w wr')
          case atStart => exact ⟨u, v, rfl, rfl, hbx'.1, hbx'.2, hby'.1, hby'.2, rfl, rfl, below_trans HI.out.2 (bel_dn _ _)⟩
          case round =>
            obtain ⟨i, j, rfl, rfl, i0, i1, j0, j1, hj, hgcd, hbel⟩ := hrel
            have H := Lib.hid (And.intro hj (And.intro hgcd hbel)); clear hj hgcd hbel
            by_cases hz : j = 0
            · subst hz
              go_wp2_with fail
              refine (of_calls _ _ (HH.out.1.to H.out.2.2) (by omega) (by omega)).mono ?_
              rintro e w4 ⟨rfl, hb4⟩
              go_wp2_with fail
              go_ret2
              refine ⟨?_, below_trans H.out.2.2 hb4⟩
              have h2 := H.out.2.1
              have h3 := HI.out.1
              have e1 : i = (Int.gcd a b : Int) := by
                have h4 : Int.gcd i 0 = i.natAbs := by simp
                omega
              rw [e1]; rfl
            · have hnz : (j != 0) = true := by simpa using hz
              have hpos : 0 < j := by omega
              have hm1 := Int.emod_nonneg i hz
              have hm2 := Int.emod_lt_of_pos i hpos
              clear hz
              go_wp2_with fail
              go_quiet (fail)
              go_wp2_with fail
              go_roundg (i % j).toNat
              case measure => have := H.out.1; omega
              case rel => exact ⟨j, i % j, rfl, rfl, by omega, by omega, hm1, by omega, rfl, (gcd_step i0 hpos).trans H.out.2.1, below_trans H.out.2.2 (bel_dn _ _)⟩
        · have j1 : (mx : Int) ≤ 1 := by omega
          have j2 : ¬ ((m + 1 : Nat) : Int) ≤ 1 := by omega
          have HD := divided_calls x y mx m lx ly fx fy wr hWx hWy hmx hmy (by omega)
          have hY0 := hmy.low
          have hp0 := pow_pos' m
          have HI := Lib.hid (And.intro hgcd (And.intro hbel (And.intro hyn (And.intro hny (And.intro hWy (And.intro hmy (And.intro hmx (And.intro hY0 (And.intro hp0 hms)))))))))
          clear hgcd hbel hyn hny hWy hWx hmy hmx hY0 hp0 hms hnx
          go_wp2_with fail
          refine HD.mono ?_
          rintro e w5 ⟨bq, br, mq, mr, q, r, rfl, ⟨hq1, hq2, hq3⟩, ⟨hr1, hr2, hr3⟩, ⟨hn3, hn4, hne1⟩, hb5⟩
          clear HD cx1 cy1
          have H5 := Lib.hid (And.intro hr1 (And.intro hr2 (And.intro hr3 (And.intro hn4 hb5)))); clear hr1 hr2 hr3 hn4 hb5 hq1 hq2 hq3 hn3 hne1
          go_wp2_with fail
          obtain ⟨hgcd, hbel, hyn, hny, hWy, hmy, hmx, hY0, hp0, hms⟩ := HI.out
          obtain ⟨hr1, hr2, hr3, hn4, hb5⟩ := H5.out
          have hr0 : val r mr < val fy (m + 1) := by rw [hr2]; exact Int.emod_lt_of_pos _ (by omega)
          go_roundg (val r mr).toNat
          case measure => have := hr1.bd.1; omega
          case rel =>
            exact ⟨y, br, m + 1, mr, fy, r, ly, false, rfl, rfl, hmy, hr1, hWy.to hb5, hr3, by rw [hr2, gcd_step hmx.bd.1 (by omega)]; exact hgcd, rfl, mag_words hr1 (by have := hmy.bd.2; have := pow_mono hyn; omega), below_trans hbel hb5, hny, by have := hbel.size; omega⟩
      · have j1 : ¬ (mx : Int) ≤ 1 := by omega
        have HD := divided_calls x y mx m lx ly fx fy wr hWx hWy hmx hmy (by omega)
        have hY0 := hmy.low
        have hp0 := pow_pos' m
        have HI := Lib.hid (And.intro hgcd (And.intro hbel (And.intro hyn (And.intro hny (And.intro hWy (And.intro hmy (And.intro hmx (And.intro hY0 (And.intro hp0 hms)))))))))
        clear hgcd hbel hyn hny hWy hWx hmy hmx hY0 hp0 hms hnx
        go_wp2_with fail
        refine HD.mono ?_
        rintro e w5 ⟨bq, br, mq, mr, q, r, rfl, ⟨hq1, hq2, hq3⟩, ⟨hr1, hr2, hr3⟩, ⟨hn3, hn4, hne1⟩, hb5⟩
        clear HD cx1 cy1
        have H5 := Lib.hid (And.intro hr1 (And.intro hr2 (And.intro hr3 (And.intro hn4 hb5)))); clear hr1 hr2 hr3 hn4 hb5 hq1 hq2 hq3 hn3 hne1
        go_wp2_with fail
        obtain ⟨hgcd, hbel, hyn, hny, hWy, hmy, hmx, hY0, hp0, hms⟩ := HI.out
        obtain ⟨hr1, hr2, hr3, hn4, hb5⟩ := H5.out
        have hr0 : val r mr < val fy (m + 1) := by rw [hr2]; exact Int.emod_lt_of_pos _ (by omega)
        go_roundg (val r mr).toNat
        case measure => have := hr1.bd.1; omega
        case rel =>
          exact ⟨y, br, m + 1, mr, fy, r, ly, false, rfl, rfl, hmy, hr1, hWy.to hb5, hr3, by rw [hr2, gcd_step hmx.bd.1 (by omega)]; exact hgcd, rfl, mag_words hr1 (by have := hmy.bd.2; have := pow_mono hyn; omega), below_trans hbel hb5, hny, by have := hbel.size; omega⟩

end Go.Proofs.YtgdlfjofefhdoaaGreatDoor
