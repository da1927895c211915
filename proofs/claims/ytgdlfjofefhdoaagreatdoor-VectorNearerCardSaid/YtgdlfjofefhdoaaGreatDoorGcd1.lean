/- whole.Gcd of short numbers; whole.Quo of short numbers. -/
import Derived.Test.YtgdlfjofefhdoaaGreatDoorRead
namespace Go.Proofs.YtgdlfjofefhdoaaGreatDoor
open Go.RowKit Go.Sort Go.Lib Mb

theorem mag_one {f : Nat → Int} {m : Nat} (h : Mag f m) (hv : val f m < B) : m ≤ 1 ∧ val f m = f 0 := by
  have hm : m ≤ 1 := by
    by_cases hc : m ≤ 1
    · exact hc
    · obtain ⟨k, rfl⟩ : ∃ k, m = k + 1 := ⟨m - 1, by omega⟩
      have h1 := h.low
      have h2 := pow_mono (show 1 ≤ k by omega)
      rw [Int.pow_succ, Int.pow_zero, Int.one_mul] at h2
      omega
  refine ⟨hm, ?_⟩
  rw [← h.ext hm]; simp [val]

theorem gcd_step {i j : Int} (h0 : 0 ≤ i) (h : 0 < j) : Int.gcd j (i % j) = Int.gcd i j := by
  obtain ⟨m, rfl⟩ := Int.eq_ofNat_of_zero_le h0
  obtain ⟨n, rfl⟩ := Int.eq_ofNat_of_zero_le (Int.le_of_lt h)
  rw [← Int.natCast_emod]
  show Nat.gcd n (m % n) = Nat.gcd m n
  rw [Nat.gcd_comm, ← Nat.gcd_rec, Nat.gcd_comm]

theorem nat_of_short {n : Int} (h : (itoa n).length ≤ 9) : (n.natAbs : Int) < B := by
  have := itoa_bd h (by omega)
  unfold B; omega

set_option maxRecDepth 100000 in
set_option maxHeartbeats 1600000 in
theorem gcd_short (a b : Int) (w : World) (hg : Good w) (ha : (itoa a).length ≤ 9) (hb : (itoa b).length ≤ 9) (h1 : 0 < b) :
    Calls Tryz.prog 164 #[S a, S b] w fun e w' => e = .returned (.tuple #[S (Int.gcd a b), .int .i64 0]) ∧ Below w.heap.size w w' := by
  have hda : (dg a).length ≤ 1024 := by have := dg_le_itoa a; omega
  have hdb : (dg b).length ≤ 1024 := by have := dg_le_itoa b; omega
  go_enter Tryz.func164, Tryz.ntmps164
  go_wp2_with fail
  refine (all_calls [a, b] _ _ _ (txts2 w a b _) (by simp [hda, hdb]) (by simp)).mono ?_
  rintro e w1 ⟨rfl, hb1⟩
  go_wp2_with fail
  refine (read_calls a _ hda).mono ?_
  rintro e w2 ⟨x, mx, fx, rfl, hx, hmx, hvx, hWx, hb2⟩
  go_wp2_with fail
  refine (read_calls b _ hdb).mono ?_
  rintro e w3 ⟨y, my, fy, rfl, hy, hmy, hvy, hWy, hb3⟩
  have hbb := below_trans (below_trans (below_trans (alloc_below w _) hb1) hb2) hb3
  have hWx3 := hWx.to hb3
  have hx1 := mag_one hmx (by rw [hvx]; exact nat_of_short ha)
  have hy1 := mag_one hmy (by rw [hvy]; exact nat_of_short hb)
  have hbx := hmx.wd 0
  have hby := hmy.wd 0
  have hy0 : my = 1 := by
    rcases Nat.eq_zero_or_pos my with e | e
    · exfalso; rw [e] at hvy; simp [val] at hvy; omega
    · omega
  have HV := Lib.hid (And.intro (hx1.2.symm.trans hvx) (hy1.2.symm.trans hvy)); clear hvx hvy
  have hmx1 : (mx : Int) ≤ 1 := by omega
  clear hx1 hy1 hmx hmy hWx
  subst hy0
  have cx1 := hWx3.c1
  have cy1 := hWy.c1
  have cx2 : w3.cell? ⟨x, 2, none⟩ = some (.int .i64 (fx 0)) := hWx3.cw 0 (by omega)
  have cy2 : w3.cell? ⟨y, 2, none⟩ = some (.int .i64 (fy 0)) := hWy.cw 0 (by omega)
  obtain ⟨u, hu⟩ : ∃ u, fx 0 = u := ⟨_, rfl⟩
  obtain ⟨v, hv⟩ : ∃ v, fy 0 = v := ⟨_, rfl⟩
  rw [hu] at cx2 hbx HV
  rw [hv] at cy2 hby HV
  clear hu hv
  go_wp2_with fail
  refine wp_loop_rounds 1 ?_
  rw [rounds_succ]
  go_wp2_with fail
  go_quiet (fail)
  go_wp2_with fail
  clear cx1 cy1 cx2 cy2 hWx3 hWy hmx1
  have hB : B = 1000000000 := rfl
  have hB' := Lib.hid hB; clear hB
  have hbx' : 0 ≤ u ∧ u < 1000000000 := hbx
  have hby' : 0 ≤ v ∧ v < 1000000000 := hby
  clear hbx hby
  go_loopg [9, 10] v.toNat (fun g p q wr => ∃ i j : Int, p = .int .i64 i ∧ q = .int .i64 j ∧ 0 ≤ i ∧ i < 1000000000 ∧ 0 ≤ j ∧ j < 1000000000 ∧ j.toNat = g ∧ Int.gcd i j = Int.gcd u v ∧ Below w3.heap.size w3 wr)
  case atStart => exact ⟨u, v, rfl, rfl, hbx'.1, hbx'.2, hby'.1, hby'.2, rfl, rfl, bel_dn _ _⟩
  case round =>
    obtain ⟨i, j, rfl, rfl, i0, i1, j0, j1, hj, hgcd, hbel⟩ := hrel
    have H := Lib.hid (And.intro hj hgcd); clear hj hgcd
    by_cases hz : j = 0
    · subst hz
      go_wp2_with fail
      refine (of_calls _ _ (hg.to (below_trans hbb hbel)) (by omega) (by omega)).mono ?_
      rintro e w4 ⟨rfl, hb4⟩
      go_wp2_with fail
      go_ret2
      refine ⟨?_, below_trans (below_trans hbb hbel) hb4⟩
      have h2 := H.out.2
      have h3 := HV.out
      have e1 : i = (Int.gcd a b : Int) := by
        have h4 : Int.gcd i 0 = i.natAbs := by simp
        have h5 : Int.gcd u v = Int.gcd a b := by rw [h3.1, h3.2]; simp [Int.gcd]
        omega
      rw [e1]; rfl
    · have hnz : (j != 0) = true := by simpa using hz
      have hpos : 0 < j := by omega
      have hm1 := Int.emod_nonneg i hz
      have hm2 := Int.emod_lt_of_pos i hpos
      clear hz
      go_wp2_with fail
      go_quiet (fail)
      go_wp2_with fail
      go_roundg (i % j).toNat
      case measure => have := H.out.1; omega
      case rel => exact ⟨j, i % j, rfl, rfl, by omega, by omega, hm1, by omega, rfl, (gcd_step i0 hpos).trans H.out.2, below_trans hbel (bel_dn _ _)⟩

end Go.Proofs.YtgdlfjofefhdoaaGreatDoor
