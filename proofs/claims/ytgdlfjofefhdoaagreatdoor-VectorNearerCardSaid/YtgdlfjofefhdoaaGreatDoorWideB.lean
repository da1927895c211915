/- Package whole: beyond, plus of magnitudes that are not negative, times. -/
import Derived.Test.YtgdlfjofefhdoaaGreatDoorCarry
namespace Go.Proofs.YtgdlfjofefhdoaaGreatDoor
open Go.RowKit Go.Sort Go.Lib Mb

set_option maxRecDepth 100000 in
set_option maxHeartbeats 1600000 in
theorem beyond_calls (bx by' : Nat) (lx ly : Bool) (n m : Nat) (f g : Nat → Int) (w : World) (hX : Wide w bx lx n f) (hY : Wide w by' ly m g) (hf : Mag f n) (hg : Mag g m) :
    Calls Tryz.prog 181 #[.pointer (some ⟨bx, 0, none⟩), .pointer (some ⟨by', 0, none⟩)] w fun e w' => (∃ r : Int, e = .returned (.int .i64 r) ∧ (0 ≤ r ↔ val g m ≤ val f n)) ∧ Below w.heap.size w w' := by
  have c1 := hX.c1
  have c2 := hY.c1
  have HX := Lib.hid (And.intro hX (And.intro hY (And.intro hf hg))); clear hX hY
  have hn := hf.le
  have hm := hg.le
  have i1 : IntKind.i64.wrap ((n : Int) - m) = (n : Int) - m := IntWalk.i64_in _ (by omega)
  by_cases hnm : n = m
  · subst hnm
    have hb : ((n : Int) == (n : Int)) = true := by simp
    have i2 : IntKind.i64.wrap ((n : Int) - 1) = (n : Int) - 1 := IntWalk.i64_in _ (by omega)
    clear hf hg
    go_enter Tryz.func181, Tryz.ntmps181
    go_wp2_with fail
    go_quiet (fail)
    have HQ := Lib.hid (bel_dn w nq)
    obtain ⟨w1, hw1⟩ : ∃ w1, w1 = w.drewN nq := ⟨_, rfl⟩
    rw [← hw1] at HQ ⊢
    have c3 : w1.cell? ⟨bx, 1, none⟩ = some (.int .i64 n) := by rw [hw1]; exact c1
    clear hw1 c1 c2
    go_wp2_with fail
    go_loopg [5] n (fun k v wr => v = .int .i64 ((k : Int) - 1) ∧ k ≤ n ∧ (∀ i, k ≤ i → i < n → f i = g i) ∧ Below w.heap.size w wr)
    case atStart => exact ⟨rfl, Nat.le_refl _, fun i h1 h2 => by omega, HQ.out⟩
    case round =>
      clear c3
      obtain ⟨rfl, hk, hall, hbel⟩ := hrel
      have HA := Lib.hid (And.intro hall hbel); clear hall hbel
      by_cases hk0 : gk = 0
      · subst hk0
        go_wp2_with fail
        go_ret
        refine ⟨⟨0, rfl, ?_⟩, HA.out.2⟩
        have : val f n = val g n := val_congr fun i hi => HA.out.1 i (Nat.zero_le _) hi
        omega
      · obtain ⟨k, rfl⟩ : ∃ k, gk = k + 1 := ⟨gk - 1, by omega⟩
        have k1 := (HX.out.1.to HA.out.2).cw k (by omega)
        have k2 := (HX.out.2.1.to HA.out.2).cw k (by omega)
        have hfw := HX.out.2.2.1.wd k
        have hgw := HX.out.2.2.2.wd k
        obtain ⟨a, ha⟩ : ∃ a, f k = a := ⟨_, rfl⟩
        obtain ⟨b, hb'⟩ : ∃ b, g k = b := ⟨_, rfl⟩
        rw [ha] at k1 hfw
        rw [hb'] at k2 hgw
        have i3 : (0 : Int) ≤ (k : Int) := by omega
        have i4 : (k : Int) < 232 := by omega
        have i5 : IntKind.i64.wrap (a - b) = a - b := IntWalk.i64_in _ (by unfold B at *; omega)
        have i6 : IntKind.i64.wrap ((k : Int) - 1) = (k : Int) - 1 := IntWalk.i64_in _ (by omega)
        have HK := Lib.hid (And.intro ha hb'); clear ha hb' hfw hgw hk0
        by_cases hab : a = b
        · subst hab
          have hb2 : (a == a) = true := by simp
          go_wp2_with fail
          go_quiet (fail)
          go_wp2_with fail
          go_roundg k
          case measure => omega
          case rel =>
            refine ⟨by go_num, by omega, fun i h1 h2 => ?_, below_trans HA.out.2 (bel_dn _ _)⟩
            by_cases e : i = k
            · subst e; rw [HK.out.1, HK.out.2]
            · exact HA.out.1 i (by omega) h2
        · have hb2 : (a == b) = false := by simpa using hab
          go_wp2_with fail
          go_quiet (fail)
          go_wp2_with fail
          go_quiet (fail)
          go_wp2_with fail
          go_ret
          refine ⟨⟨a - b, rfl, ?_⟩, below_trans HA.out.2 (by first | exact bel_dn _ _ | exact below_trans (bel_dn _ _) (bel_dn _ _))⟩
          have := cmp_w HX.out.2.2.1 HX.out.2.2.2 (k := k) (by omega) (fun i h1 h2 => HA.out.1 i (by omega) h2) (by rw [HK.out.1, HK.out.2]; exact hab)
          rw [HK.out.1, HK.out.2] at this
          exact this
  · have hb : ((n : Int) == (m : Int)) = false := by simp; omega
    have HC := Lib.hid (cmp_n hf hg hnm); clear hf hg
    go_enter Tryz.func181, Tryz.ntmps181
    go_wp2_with fail
    go_quiet (fail)
    go_wp2_with fail
    go_quiet (fail)
    go_wp2_with fail
    go_ret
    exact ⟨⟨(n : Int) - m, rfl, HC.out⟩, by first | exact bel_dn _ _ | exact below_trans (bel_dn _ _) (bel_dn _ _)⟩

theorem carry_room {x0 y : Nat → Int} {xn yn up : Nat} {fac : Int} (hx : Mag x0 xn) (hy : Mag y yn) (hf : 0 ≤ fac) (hu : up ≤ 232) (h : val x0 xn + fac * val y yn * B ^ up < B ^ 232) :
    0 ≤ val (sh x0 up) (232 - up) + fac * val y yn ∧ val (sh x0 up) (232 - up) + fac * val y yn < B ^ (232 - up) := by
  have h1 := val_split x0 up (232 - up)
  rw [show up + (232 - up) = 232 by omega, hx.ext (m := 232) hx.le] at h1
  have h2 := val_bd (f := x0) (k := up) (fun i _ => hx.wd i)
  have h3 := val_bd (f := sh x0 up) (k := 232 - up) (fun i _ => hx.wd _)
  have h4 := hy.bd.1
  have h5 : 0 ≤ fac * val y yn := Int.mul_nonneg hf h4
  have hp := pow_pos' up
  refine ⟨by omega, ?_⟩
  have h6 : (val (sh x0 up) (232 - up) + fac * val y yn) * B ^ up < B ^ (232 - up) * B ^ up := by
    rw [← Int.pow_add, show 232 - up + up = 232 by omega, Int.add_mul]
    omega
  exact Int.lt_of_mul_lt_mul_right h6 (by omega)

/-- carry of what is not negative and fits the room -/
theorem carryp_calls (bx by' : Nat) (lx ly : Bool) (xn yn : Nat) (x0 y : Nat → Int) (fac : Int) (up : Nat) (w : World) (hX : Wide w bx lx xn x0) (hY : Wide w by' ly yn y) (hne : bx ≠ by') (hx : Mag x0 xn) (hy : Mag y yn) (hf : 0 ≤ fac ∧ fac ≤ B - 1)
    (hu : up + yn ≤ 232) (h : val x0 xn + fac * val y yn * B ^ up < B ^ 232) :
    Calls Tryz.prog 153 #[.pointer (some ⟨bx, 0, none⟩), .pointer (some ⟨by', 0, none⟩), .int .i64 fac, .int .i64 up] w fun e w' => e = .returned (.tuple #[]) ∧
      (∃ m f, Mag f m ∧ val f m = val x0 xn + fac * val y yn * B ^ up ∧ Wide w' bx lx m f) ∧ w.grownBy w' (some bx) :=
  carry_calls bx by' lx ly xn yn x0 y fac up w hX hY hne hx hy ⟨by unfold B at *; omega, hf.2⟩ hu (carry_room hx hy hf.1 (by omega) h).1 (carry_room hx hy hf.1 (by omega) h).2

set_option maxHeartbeats 1600000 in
theorem plus_calls (bx by' : Nat) (xn yn : Nat) (x0 y : Nat → Int) (w : World) (hX : Wide w bx false xn x0) (hY : Wide w by' false yn y) (hne : bx ≠ by') (hx : Mag x0 xn) (hy : Mag y yn) (h : val x0 xn + val y yn < B ^ 232) :
    Calls Tryz.prog 155 #[.pointer (some ⟨bx, 0, none⟩), .pointer (some ⟨by', 0, none⟩)] w fun e w' => e = .returned (.tuple #[]) ∧
      (∃ m f, Mag f m ∧ val f m = val x0 xn + val y yn ∧ Wide w' bx false m f) ∧ w.grownBy w' (some bx) := by
  have H : ∀ q, Calls Tryz.prog 153 #[.pointer (some ⟨bx, 0, none⟩), .pointer (some ⟨by', 0, none⟩), .int .i64 1, .int .i64 0] (w.drewN q) fun e w' => e = .returned (.tuple #[]) ∧
      ((∃ m f, Mag f m ∧ val f m = val x0 xn + val y yn ∧ Wide w' bx false m f) ∧ w.grownBy w' (some bx)) := fun q =>
    (carryp_calls bx by' false false xn yn x0 y 1 0 _ (hX.drewN q) (hY.drewN q) hne hx hy ⟨by decide, by decide⟩ (by have := hy.le; omega) (by simpa using h)).mono fun e w' ⟨he, ⟨m, f, h1, h2, h3⟩, h4⟩ => ⟨he, ⟨m, f, h1, by simpa using h2, h3⟩, gb_trans (gb_dn w q _) h4⟩
  have c1 := hX.c0
  have c2 := hY.c0
  clear hX hY hx hy h
  go_enter Tryz.func155, Tryz.ntmps155
  go_wp2_with fail
  go_quiet (fail)
  go_wp2_with fail
  refine (H nq).mono ?_
  rintro e w1 ⟨rfl, h1⟩
  have H1 := Lib.hid h1; clear h1 H
  go_wp2_with fail
  refine bodyPost_ret (results_none rfl _ _ _) rfl ?_
  exact ⟨rfl, H1.out⟩

theorem val_mono {f : Nat → Int} (hf : ∀ i, 0 ≤ f i ∧ f i < B) (k : Nat) : val f k ≤ val f (k + 1) := by
  have h1 := (hf k).1
  have h2 := pow_pos' k
  have : 0 ≤ f k * B ^ k := Int.mul_nonneg h1 (by omega)
  simp only [val]; omega

set_option maxRecDepth 100000 in
set_option maxHeartbeats 3200000 in
theorem times_calls (bx by' : Nat) (lx ly : Bool) (xn yn : Nat) (x y : Nat → Int) (w : World) (hX : Wide w bx lx xn x) (hY : Wide w by' ly yn y) (hx : Mag x xn) (hy : Mag y yn) (hu : xn + yn ≤ 232) :
    Calls Tryz.prog 124 #[.pointer (some ⟨bx, 0, none⟩), .pointer (some ⟨by', 0, none⟩)] w fun e w' => ∃ b m f, e = .returned (.pointer (some ⟨b, 0, none⟩)) ∧ w.heap.size ≤ b ∧ Mag f m ∧ val f m = val x xn * val y yn ∧ Wide w' b (lx != ly) m f ∧ Below w.heap.size w w' := by
  have c1 := hX.c0
  have c2 := hY.c0
  have HX := Lib.hid (And.intro hX (And.intro hY (And.intro hx hy))); clear hX hY hx hy
  go_enter Tryz.func124, Tryz.ntmps124
  go_wp2_with fail
  go_region
  rw [zero_set]
  obtain ⟨w1, hw1⟩ : ∃ w1, w1 = (w.alloc (.cells (wc (!(lx == ly)) 0 (fun _ => 0)) 193)).drew := ⟨_, rfl⟩
  rw [← hw1]
  have hW : Wide w1 w.heap.size (!(lx == ly)) 0 (fun _ => 0) := by rw [hw1]; exact (wide_new _ _ _ _).drew
  have hB : Below w.heap.size w w1 := by rw [hw1]; exact (alloc_below _ _).drew
  clear hw1 c1 c2
  obtain ⟨b, hb⟩ : ∃ b, b = w.heap.size := ⟨_, rfl⟩
  rw [← hb] at hW ⊢
  have HB := Lib.hid hb; clear hb
  have c3 := (HX.out.2.1.to hB).c1
  have hyn := HX.out.2.2.2.le
  go_wp2_with fail
  go_loopg [22] yn (fun g v wr => ∃ (i m : Nat) (f : Nat → Int), i + g = yn ∧ v = .int .i64 i ∧ Mag f m ∧ val f m = val x xn * val y i ∧ Wide wr b (!(lx == ly)) m f ∧ Below w.heap.size w wr)
  case atStart => exact ⟨0, 0, fun _ => 0, Nat.zero_add _, rfl, Mag.zero, by simp [val], hW, hB⟩
  case round =>
    clear c3 hW hB
    obtain ⟨i, m, f, hi, rfl, hm, hv, hW, hbel⟩ := hrel
    by_cases hlt : i < yn
    · have k1 := (HX.out.2.1.to hbel).cw i (by omega)
      have hyi := HX.out.2.2.2.wd i
      have hx0 := HX.out.2.2.1.bd
      have hne : b ≠ bx := by have := HX.out.1.lt; rw [HB.out]; omega
      have hnew : val f m + y i * val x xn * B ^ i = val x xn * val y (i + 1) := by
        rw [hv]
        simp only [val]
        grind
      have hroom : val f m + y i * val x xn * B ^ i < B ^ 232 := by
        rw [hnew]
        have h1 := (val_bd (f := y) (k := i + 1) (fun j _ => HX.out.2.2.2.wd j))
        have h2 : val x xn * val y (i + 1) ≤ val x xn * B ^ (i + 1) := Int.mul_le_mul_of_nonneg_left (by omega) hx0.1
        have h3 : val x xn * B ^ (i + 1) < B ^ xn * B ^ (i + 1) := Int.mul_lt_mul_of_pos_right hx0.2 (pow_pos' _)
        have h4 : B ^ xn * B ^ (i + 1) = B ^ (xn + (i + 1)) := (Int.pow_add _ _ _).symm
        have h5 := pow_mono (show xn + (i + 1) ≤ 232 by omega)
        omega
      have H := carryp_calls b bx (!(lx == ly)) lx m xn f x (y i) i wr hW (HX.out.1.to hbel) hne hm HX.out.2.2.1 ⟨hyi.1, by omega⟩ (by omega) hroom
      rw [hnew] at H
      have HBel := Lib.hid hbel
      obtain ⟨yi, hyi'⟩ : ∃ yi, y i = yi := ⟨_, rfl⟩
      rw [hyi'] at k1 H
      clear hyi hx0 hnew hroom hyi' hW hbel hv hm hne
      have i1 : (i : Int) < (yn : Int) := by omega
      have i2 : (0 : Int) ≤ (i : Int) := by omega
      have i3 : (i : Int) < 232 := by omega
      go_wp2_with fail
      refine H.mono ?_
      rintro e w2 ⟨rfl, h1, h2⟩
      have H2 := Lib.hid (And.intro h1 h2); clear h1 h2 H
      go_wp2_with fail
      go_roundg (yn - i - 1)
      case measure => omega
      case rel =>
        obtain ⟨⟨m', f', hm', hv', hW'⟩, hg'⟩ := H2.out
        exact ⟨i + 1, m', f', by omega, by go_num, hm', hv', hW', below_gb HBel.out hg' HBel.out.size (by rw [HB.out]; exact Nat.le_refl _)⟩
    · have hiy : i = yn := by omega
      subst hiy
      have HF := Lib.hid (And.intro hm (And.intro hv (And.intro hW hbel)))
      clear hm hv hW hbel
      go_wp2_with fail
      go_ret
      exact ⟨b, m, f, rfl, by rw [HB.out]; exact Nat.le_refl _, HF.out.1, HF.out.2.1, HF.out.2.2.1, HF.out.2.2.2⟩

end Go.Proofs.YtgdlfjofefhdoaaGreatDoor
