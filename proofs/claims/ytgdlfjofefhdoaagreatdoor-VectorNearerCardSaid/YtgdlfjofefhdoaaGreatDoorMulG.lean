/- Package whole: Mul and Add of integers of any size. -/
import Derived.Test.YtgdlfjofefhdoaaGreatDoorWText
namespace Go.Proofs.YtgdlfjofefhdoaaGreatDoor
open Go.RowKit Go.Sort Go.Lib Mb

theorem limited_calls (b n : Nat) (f : Nat → Int) (w : World) (hg : Good w) (hW : Wide w b false n f) (hm : Mag f n) (hd : (dg (val f n)).length ≤ 1024) :
    Calls Tryz.prog 125 #[.pointer (some ⟨b, 0, none⟩)] w fun e w' => e = .returned (.tuple #[S (val f n), .int .i64 0]) ∧ Below w.heap.size w w' := by
  have H := text_calls b n f w hg hW hm
  obtain ⟨v, hv⟩ : ∃ v, val f n = v := ⟨_, rfl⟩
  rw [hv] at H hd ⊢
  clear hv hW hm
  go_enter Tryz.func125, Tryz.ntmps125
  go_wp2_with fail
  refine H.mono ?_
  rintro e w1 ⟨rfl, hb1⟩
  clear H
  go_wp2_with fail
  refine (check_calls v _ hd).mono ?_
  rintro e w2 ⟨rfl, hb2⟩
  go_wp2_with fail
  go_ret2
  exact ⟨rfl, below_trans hb1 hb2⟩

theorem mag_words {f : Nat → Int} {m p : Nat} (h : Mag f m) (hv : val f m < B ^ p) : m ≤ p := by
  rcases Nat.lt_or_ge p m with hlt | hge
  · obtain ⟨k, rfl⟩ : ∃ k, m = k + 1 := ⟨m - 1, by omega⟩
    have h1 := h.low
    have h2 := pow_mono (show p ≤ k by omega)
    omega
  · exact hge

theorem natAbs_mul' (a b : Int) (hs : decide (a < 0) = decide (b < 0)) : (a.natAbs : Int) * (b.natAbs : Int) = a * b := by
  by_cases ha : a < 0
  · have hb : b < 0 := by have := hs; rw [decide_eq_true ha] at this; exact of_decide_eq_true this.symm
    rw [show (a.natAbs : Int) = -a by omega, show (b.natAbs : Int) = -b by omega, Int.neg_mul_neg]
  · have hb : ¬ b < 0 := by have := hs; rw [decide_eq_false ha] at this; exact of_decide_eq_false this.symm
    rw [show (a.natAbs : Int) = a by omega, show (b.natAbs : Int) = b by omega]

set_option maxHeartbeats 1600000 in
theorem mul_calls (a b : Int) (p q : Nat) (w : World) (hg : Good w) (hs : decide (a < 0) = decide (b < 0)) (ha : (a.natAbs : Int) < B ^ p) (hb : (b.natAbs : Int) < B ^ q) (hpq : p + q ≤ 232) (hda : (dg a).length ≤ 1024) (hdb : (dg b).length ≤ 1024) (hd : (dg (a * b)).length ≤ 1024) :
    Calls Tryz.prog 73 #[S a, S b] w fun e w' => e = .returned (.tuple #[S (a * b), .int .i64 0]) ∧ Below w.heap.size w w' := by
  by_cases hsh : (itoa a).length ≤ 9 ∧ (itoa b).length ≤ 9
  · exact mul_short a b w hg hsh.1 hsh.2
  · have HH := Lib.hid (And.intro hg (And.intro hs (And.intro ha (And.intro hb (And.intro hpq hd))))); clear hg hs ha hb hpq hd
    go_enter Tryz.func73, Tryz.ntmps73
    go_wp2_with fail
    refine (all_calls [a, b] _ _ _ (txts2 w a b _) (by simp [hda, hdb]) (by simp)).mono ?_
    rintro e w1 ⟨rfl, hb1⟩
    go_wp2_with fail
    refine (small_no a b _ (by omega)).mono ?_
    rintro e w2 ⟨rfl, hb2⟩
    have H2 := Lib.hid (below_trans (below_trans (alloc_below w _) hb1) hb2); clear hb1 hb2
    go_wp2_with fail
    refine (read_calls a _ hda).mono ?_
    rintro e w3 ⟨b1, m1, f1, rfl, _, hm1, hv1, hw1, hb3⟩
    have H3 := Lib.hid (And.intro hm1 (And.intro hv1 (And.intro hw1 (below_trans H2.out hb3)))); clear hm1 hv1 hw1 hb3
    go_wp2_with fail
    refine (read_calls b _ hdb).mono ?_
    rintro e w4 ⟨b2, m2, f2, rfl, _, hm2, hv2, hw2, hb4⟩
    have H4 := Lib.hid (And.intro hm2 (And.intro hv2 (And.intro hw2 (And.intro (H3.out.2.2.1.to hb4) (below_trans H3.out.2.2.2 hb4))))); clear hm2 hv2 hw2 hb4
    have hp1 : m1 ≤ p := mag_words H3.out.1 (by rw [H3.out.2.1]; exact HH.out.2.2.1)
    have hp2 : m2 ≤ q := mag_words H4.out.1 (by rw [H4.out.2.1]; exact HH.out.2.2.2.1)
    have hpq := HH.out.2.2.2.2.1
    go_wp2_with fail
    refine (times_calls b1 b2 _ _ m1 m2 f1 f2 _ H4.out.2.2.2.1 H4.out.2.2.1 H3.out.1 H4.out.1 (by omega)).mono ?_
    rintro e w5 ⟨b3, m3, f3, rfl, _, hm3, hv3, hw3, hb5⟩
    rw [H3.out.2.1, H4.out.2.1, natAbs_mul' a b HH.out.2.1] at hv3
    rw [show (decide (a < 0) != decide (b < 0)) = false by rw [HH.out.2.1]; simp] at hw3
    have H5 := Lib.hid (And.intro hm3 (And.intro hv3 (And.intro hw3 (below_trans H4.out.2.2.2.2 hb5)))); clear hm3 hv3 hw3 hb5 hp1 hp2 hpq
    have HL := limited_calls b3 m3 f3 w5 (HH.out.1.to H5.out.2.2.2) H5.out.2.2.1 H5.out.1 (by rw [H5.out.2.1]; exact HH.out.2.2.2.2.2)
    rw [H5.out.2.1] at HL
    go_wp2_with fail
    refine HL.mono ?_
    rintro e w6 ⟨rfl, hb6⟩
    clear HL
    go_wp2_with fail
    go_ret2
    exact ⟨rfl, below_trans H5.out.2.2.2 hb6⟩

set_option maxRecDepth 100000 in
set_option maxHeartbeats 1600000 in
theorem sum_calls (a b : Int) (blk : Nat) (w : World) (hg : Good w) (hT : Txts w blk [a, b]) (ha : 0 ≤ a) (hb : 0 ≤ b) (hr : a + b < B ^ 232) (hda : (dg a).length ≤ 1024) (hdb : (dg b).length ≤ 1024) (hd : (dg (a + b)).length ≤ 1024) :
    Calls Tryz.prog 126 #[.slice (some ⟨blk, 0, none⟩) 2 2] w fun e w' => e = .returned (.tuple #[S (a + b), .int .i64 0]) ∧ Below w.heap.size w w' := by
  have t0 := hT.2 0 (by simp)
  have t1 := hT.2 1 (by simp)
  simp only [List.getElem_cons_zero, List.getElem_cons_succ] at t0 t1
  have HH := Lib.hid (And.intro hg (And.intro t0 (And.intro t1 hr))); clear hg t0 t1 hT hr
  go_enter Tryz.func126, Tryz.ntmps126
  go_wp2_with fail
  rw [zero_wc]
  obtain ⟨w1, hw1⟩ : ∃ w1, w1 = w.alloc (.cells (wc false 0 (fun _ => 0)) 193) := ⟨_, rfl⟩
  rw [← hw1]
  have hW : Wide w1 w.heap.size false 0 (fun _ => 0) := by rw [hw1]; exact wide_new _ _ _ _
  have hB : Below w.heap.size w w1 := by rw [hw1]; exact alloc_below _ _
  clear hw1
  obtain ⟨x, hx⟩ : ∃ x, x = w.heap.size := ⟨_, rfl⟩
  rw [← hx] at hW ⊢
  have HX := Lib.hid hx; clear hx
  go_loopg [11] 2 (fun g v wr => ∃ (i m : Nat) (f : Nat → Int), i + g = 2 ∧ v = .int .i64 i ∧ Mag f m ∧ val f m = (if i = 0 then 0 else if i = 1 then a else a + b) ∧ Wide wr x false m f ∧ Below w.heap.size w wr)
  case atStart => exact ⟨0, 0, fun _ => 0, rfl, rfl, Mag.zero, rfl, hW, hB⟩
  case round =>
    clear hW hB
    obtain ⟨i, m, f, hi, rfl, hm, hv, hW, hbel⟩ := hrel
    match i, hi with
    | 0, hi =>
      have t0 := cellT HH.out.2.1 hbel
      have H0 := Lib.hid (And.intro hm (And.intro hv (And.intro hW hbel))); clear hm hv hW hbel
      go_wp2_with fail
      refine (read_calls a _ hda).mono ?_
      rintro e w2 ⟨b1, m1, f1, rfl, hnew, hm1, hv1, hw1, hb2⟩
      rw [decide_eq_false (by omega)] at hw1
      have hne : x ≠ b1 := by have := H0.out.2.2.1.lt; omega
      have H := plus_calls x b1 m m1 f f1 w2 (H0.out.2.2.1.to hb2) hw1 hne H0.out.1 hm1 (by rw [H0.out.2.1, hv1]; have := HH.out.2.2.2; simp; omega)
      rw [H0.out.2.1, hv1] at H
      have H2 := Lib.hid (below_trans H0.out.2.2.2 hb2); clear hw1 hm1 hv1 hb2 t0 hnew hne
      go_wp2_with fail
      refine H.mono ?_
      rintro e w3 ⟨rfl, h3, hg3⟩
      have H3 := Lib.hid (And.intro h3 hg3); clear H h3 hg3
      go_wp2_with fail
      go_roundg 1
      case measure => omega
      case rel =>
        obtain ⟨⟨m', f', h1, h2, h3⟩, h4⟩ := H3.out
        exact ⟨1, m', f', rfl, rfl, h1, by rw [h2]; simp; omega, h3, below_gb H2.out h4 H2.out.size (by rw [HX.out]; exact Nat.le_refl _)⟩
    | 1, hi =>
      have t1 := cellT HH.out.2.2.1 hbel
      have H0 := Lib.hid (And.intro hm (And.intro hv (And.intro hW hbel))); clear hm hv hW hbel
      go_wp2_with fail
      refine (read_calls b _ hdb).mono ?_
      rintro e w2 ⟨b1, m1, f1, rfl, hnew, hm1, hv1, hw1, hb2⟩
      rw [decide_eq_false (by omega)] at hw1
      have hne : x ≠ b1 := by have := H0.out.2.2.1.lt; omega
      have hv0 : val f m = a := by rw [H0.out.2.1]; simp
      have H := plus_calls x b1 m m1 f f1 w2 (H0.out.2.2.1.to hb2) hw1 hne H0.out.1 hm1 (by rw [hv0, hv1]; have := HH.out.2.2.2; omega)
      rw [hv0, hv1] at H
      have H2 := Lib.hid (below_trans H0.out.2.2.2 hb2); clear hw1 hm1 hv1 hb2 t1 hnew hne hv0
      go_wp2_with fail
      refine H.mono ?_
      rintro e w3 ⟨rfl, h3, hg3⟩
      have H3 := Lib.hid (And.intro h3 hg3); clear H h3 hg3
      go_wp2_with fail
      go_roundg 0
      case measure => omega
      case rel =>
        obtain ⟨⟨m', f', h1, h2, h3⟩, h4⟩ := H3.out
        exact ⟨2, m', f', rfl, rfl, h1, by rw [h2]; simp; omega, h3, below_gb H2.out h4 H2.out.size (by rw [HX.out]; exact Nat.le_refl _)⟩
    | 2, hi =>
      have hv' : val f m = a + b := by rw [hv]; simp
      have HL := limited_calls x m f wr (HH.out.1.to hbel) hW hm (by rw [hv']; exact hd)
      rw [hv'] at HL
      have H0 := Lib.hid hbel; clear hm hv hW hbel hv'
      go_wp2_with fail
      refine HL.mono ?_
      rintro e w6 ⟨rfl, hb6⟩
      clear HL
      go_wp2_with fail
      go_ret2
      exact ⟨rfl, below_trans H0.out hb6⟩
    | i + 3, hi => omega

set_option maxHeartbeats 1600000 in
theorem add_calls (a b : Int) (w : World) (hg : Good w) (ha : 0 ≤ a) (hb : 0 ≤ b) (hr : a + b < B ^ 232) (hda : (dg a).length ≤ 1024) (hdb : (dg b).length ≤ 1024) (hd : (dg (a + b)).length ≤ 1024) :
    Calls Tryz.prog 74 #[S a, S b] w fun e w' => e = .returned (.tuple #[S (a + b), .int .i64 0]) ∧ Below w.heap.size w w' := by
  by_cases hsh : (itoa a).length ≤ 9 ∧ (itoa b).length ≤ 9
  · exact add_short a b w hg hsh.1 hsh.2
  · have HH := Lib.hid (And.intro hg hr); clear hg hr
    go_enter Tryz.func74, Tryz.ntmps74
    go_wp2_with fail
    refine (all_calls [a, b] _ _ _ (txts2 w a b _) (by simp [hda, hdb]) (by simp)).mono ?_
    rintro e w1 ⟨rfl, hb1⟩
    go_wp2_with fail
    refine (small_no a b _ (by omega)).mono ?_
    rintro e w2 ⟨rfl, hb2⟩
    have H2 := Lib.hid (below_trans (below_trans (alloc_below w _) hb1) hb2); clear hb1 hb2
    go_wp2_with fail
    refine (sum_calls a b _ _ ((HH.out.1.to H2.out).alloc _) (txts2 w2 a b _) ha hb HH.out.2 hda hdb hd).mono ?_
    rintro e w3 ⟨rfl, hb3⟩
    go_wp2_with fail
    go_ret2
    exact ⟨rfl, below_trans H2.out (below_trans (alloc_below _ _) hb3)⟩

end Go.Proofs.YtgdlfjofefhdoaaGreatDoor
