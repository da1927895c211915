/- Package whole: Mul and Add of integers of any size and sign. -/
import Derived.Test.YtgdlfjofefhdoaaGreatDoorSgn
namespace Go.Proofs.YtgdlfjofefhdoaaGreatDoor
open Go.RowKit Go.Sort Go.Lib Mb

theorem dg_room_k {a : Int} (k q : Nat) (hk : 1 ≤ k) (hm : k ≤ 9 * q) (h : (dg a).length ≤ k) : (a.natAbs : Int) < B ^ q := by
  have h1 : a.natAbs < 10 ^ k := (decDigits_len_le hk).1 h
  have h2 : (10 : Nat) ^ k ≤ 10 ^ (9 * q) := Nat.pow_le_pow_right (by decide) hm
  have h3 : B ^ q = ((10 ^ (9 * q) : Nat) : Int) := by
    rw [Nat.pow_mul]
    have : B = ((10 ^ 9 : Nat) : Int) := by decide
    rw [this]
    exact (Int.natCast_pow _ _).symm
  rw [h3]
  exact Int.ofNat_lt.2 (Nat.lt_of_lt_of_le h1 h2)
theorem dg_room {a : Int} (h : (dg a).length ≤ 1024) : (a.natAbs : Int) < B ^ 114 := dg_room_k 1024 114 (by decide) (by decide) h

theorem sv_of (a : Int) : sv (decide (a < 0)) (a.natAbs : Int) = a := by
  unfold sv
  by_cases h : a < 0
  · rw [decide_eq_true h]; simp; omega
  · rw [decide_eq_false h]; simp; omega

theorem sv_mul (l m : Bool) (u v : Int) : sv (l != m) (u * v) = sv l u * sv m v := by
  cases l <;> cases m <;> simp [sv, Int.neg_mul, Int.mul_neg]

theorem sv_abs {l : Bool} {v s : Int} (hv : 0 ≤ v) (h : sv l v = s) : v = (s.natAbs : Int) := by
  cases l <;> simp [sv] at h <;> omega

set_option maxHeartbeats 1600000 in
theorem muls_calls (a b : Int) (w : World) (hg : Good w) (hda : (dg a).length ≤ 1024) (hdb : (dg b).length ≤ 1024) (hd : (dg (a * b)).length ≤ 1024) :
    Calls Tryz.prog 73 #[S a, S b] w fun e w' => e = .returned (.tuple #[S (a * b), .int .i64 0]) ∧ Below w.heap.size w w' := by
  by_cases hsh : (itoa a).length ≤ 9 ∧ (itoa b).length ≤ 9
  · exact mul_short a b w hg hsh.1 hsh.2
  · have HH := Lib.hid (And.intro hg (And.intro (dg_room hda) (And.intro (dg_room hdb) hd))); clear hg hd
    go_enter Tryz.func73, Tryz.ntmps73
    go_wp2_with fail
    refine (all_calls [a, b] _ _ _ (txts2 w a b _) (by simp [hda, hdb]) (by simp)).mono ?_
    rintro e w1 ⟨rfl, hb1⟩
    go_wp2_with fail
    refine (small_no a b _ (by omega)).mono ?_
    rintro e w2 ⟨rfl, hb2⟩
    have H2 := Lib.hid (below_trans (below_trans (alloc_below w _) hb1) hb2); clear hb1 hb2
    go_wp2_with fail
    refine (read_calls a _ hda).mono ?_
    rintro e w3 ⟨b1, m1, f1, rfl, _, hm1, hv1, hw1, hb3⟩
    have H3 := Lib.hid (And.intro hm1 (And.intro hv1 (And.intro hw1 (below_trans H2.out hb3)))); clear hm1 hv1 hw1 hb3
    go_wp2_with fail
    refine (read_calls b _ hdb).mono ?_
    rintro e w4 ⟨b2, m2, f2, rfl, _, hm2, hv2, hw2, hb4⟩
    have H4 := Lib.hid (And.intro hm2 (And.intro hv2 (And.intro hw2 (And.intro (H3.out.2.2.1.to hb4) (below_trans H3.out.2.2.2 hb4))))); clear hm2 hv2 hw2 hb4
    have hp1 : m1 ≤ 114 := mag_words H3.out.1 (by rw [H3.out.2.1]; exact HH.out.2.1)
    have hp2 : m2 ≤ 114 := mag_words H4.out.1 (by rw [H4.out.2.1]; exact HH.out.2.2.1)
    go_wp2_with fail
    refine (times_calls b1 b2 _ _ m1 m2 f1 f2 _ H4.out.2.2.2.1 H4.out.2.2.1 H3.out.1 H4.out.1 (by omega)).mono ?_
    rintro e w5 ⟨b3, m3, f3, rfl, _, hm3, hv3, hw3, hb5⟩
    have hs : sv (decide (a < 0) != decide (b < 0)) (val f3 m3) = a * b := by
      rw [hv3, H3.out.2.1, H4.out.2.1, sv_mul, sv_of, sv_of]
    have H5 := Lib.hid (And.intro hm3 (And.intro hs (And.intro hw3 (below_trans H4.out.2.2.2.2 hb5)))); clear hm3 hv3 hw3 hb5 hp1 hp2 hs
    have HL := limiteds_calls b3 m3 _ f3 w5 (HH.out.1.to H5.out.2.2.2) H5.out.2.2.1 H5.out.1 (by rw [H5.out.2.1]; exact HH.out.2.2.2)
    rw [H5.out.2.1] at HL
    go_wp2_with fail
    refine HL.mono ?_
    rintro e w6 ⟨rfl, hb6⟩
    clear HL
    go_wp2_with fail
    go_ret2
    exact ⟨rfl, below_trans H5.out.2.2.2 hb6⟩

theorem room2 {a b : Int} (ha : (a.natAbs : Int) < B ^ 114) (hb : (b.natAbs : Int) < B ^ 114) : (a.natAbs : Int) + b.natAbs < B ^ 232 := by
  have h1 : B ^ 114 * B ≤ B ^ 232 := by rw [← pow_succ']; exact pow_mono (by decide)
  have h2 := pow_pos' 114
  have h3 : B ^ 114 * 2 ≤ B ^ 114 * B := Int.mul_le_mul_of_nonneg_left (by decide) (by omega)
  omega

set_option maxRecDepth 100000 in
set_option maxHeartbeats 1600000 in
theorem sums_calls (a b : Int) (blk : Nat) (w : World) (hg : Good w) (hT : Txts w blk [a, b]) (hda : (dg a).length ≤ 1024) (hdb : (dg b).length ≤ 1024) (hd : (dg (a + b)).length ≤ 1024) :
    Calls Tryz.prog 126 #[.slice (some ⟨blk, 0, none⟩) 2 2] w fun e w' => e = .returned (.tuple #[S (a + b), .int .i64 0]) ∧ Below w.heap.size w w' := by
  have t0 := hT.2 0 (by simp)
  have t1 := hT.2 1 (by simp)
  simp only [List.getElem_cons_zero, List.getElem_cons_succ] at t0 t1
  have HH := Lib.hid (And.intro hg (And.intro t0 (And.intro t1 (room2 (dg_room hda) (dg_room hdb))))); clear hg t0 t1 hT
  go_enter Tryz.func126, Tryz.ntmps126
  go_wp2_with fail
  rw [zero_wc]
  obtain ⟨w1, hw1⟩ : ∃ w1, w1 = w.alloc (.cells (wc false 0 (fun _ => 0)) 193) := ⟨_, rfl⟩
  rw [← hw1]
  have hW : Wide w1 w.heap.size false 0 (fun _ => 0) := by rw [hw1]; exact wide_new _ _ _ _
  have hB : Below w.heap.size w w1 := by rw [hw1]; exact alloc_below _ _
  clear hw1
  obtain ⟨x, hx⟩ : ∃ x, x = w.heap.size := ⟨_, rfl⟩
  rw [← hx] at hW ⊢
  have HX := Lib.hid hx; clear hx
  go_loopg [11] 2 (fun g v wr => ∃ (i m : Nat) (l : Bool) (f : Nat → Int), i + g = 2 ∧ v = .int .i64 i ∧ Mag f m ∧ sv l (val f m) = (if i = 0 then 0 else if i = 1 then a else a + b) ∧ Wide wr x l m f ∧ Below w.heap.size w wr)
  case atStart => exact ⟨0, 0, false, fun _ => 0, rfl, rfl, Mag.zero, rfl, hW, hB⟩
  case round =>
    clear hW hB
    obtain ⟨i, m, l, f, hi, rfl, hm, hv, hW, hbel⟩ := hrel
    match i, hi with
    | 0, hi =>
      have t0 := cellT HH.out.2.1 hbel
      have H0 := Lib.hid (And.intro hm (And.intro hv (And.intro hW hbel))); clear hm hv hW hbel
      go_wp2_with fail
      refine (read_calls a _ hda).mono ?_
      rintro e w2 ⟨b1, m1, f1, rfl, hnew, hm1, hv1, hw1, hb2⟩
      have hne : x ≠ b1 := by have := H0.out.2.2.1.lt; omega
      have hz : val f m = 0 := by have := sv_abs H0.out.1.bd.1 H0.out.2.1; simpa using this
      have H := pluss_calls x b1 l _ m m1 f f1 w2 (H0.out.2.2.1.to hb2) hw1 hne H0.out.1 hm1 (by rw [hz, hv1]; have := HH.out.2.2.2; omega)
      rw [H0.out.2.1, hv1, sv_of] at H
      have H2 := Lib.hid (below_trans H0.out.2.2.2 hb2); clear hw1 hm1 hv1 hb2 t0 hnew hne hz
      go_wp2_with fail
      refine H.mono ?_
      rintro e w3 ⟨rfl, h3, hg3⟩
      have H3 := Lib.hid (And.intro h3 hg3); clear H h3 hg3
      go_wp2_with fail
      go_roundg 1
      case measure => omega
      case rel =>
        obtain ⟨⟨l', m', f', h1, h2, h3⟩, h4⟩ := H3.out
        exact ⟨1, m', l', f', rfl, rfl, h1, by rw [h2]; simp, h3, below_gb H2.out h4 H2.out.size (by rw [HX.out]; exact Nat.le_refl _)⟩
    | 1, hi =>
      have t1 := cellT HH.out.2.2.1 hbel
      have H0 := Lib.hid (And.intro hm (And.intro hv (And.intro hW hbel))); clear hm hv hW hbel
      go_wp2_with fail
      refine (read_calls b _ hdb).mono ?_
      rintro e w2 ⟨b1, m1, f1, rfl, hnew, hm1, hv1, hw1, hb2⟩
      have hne : x ≠ b1 := by have := H0.out.2.2.1.lt; omega
      have hv0 : sv l (val f m) = a := by rw [H0.out.2.1]; simp
      have hz : val f m = (a.natAbs : Int) := sv_abs H0.out.1.bd.1 hv0
      have H := pluss_calls x b1 l _ m m1 f f1 w2 (H0.out.2.2.1.to hb2) hw1 hne H0.out.1 hm1 (by rw [hz, hv1]; have := HH.out.2.2.2; omega)
      rw [hv0, hv1, sv_of] at H
      have H2 := Lib.hid (below_trans H0.out.2.2.2 hb2); clear hw1 hm1 hv1 hb2 t1 hnew hne hv0 hz
      go_wp2_with fail
      refine H.mono ?_
      rintro e w3 ⟨rfl, h3, hg3⟩
      have H3 := Lib.hid (And.intro h3 hg3); clear H h3 hg3
      go_wp2_with fail
      go_roundg 0
      case measure => omega
      case rel =>
        obtain ⟨⟨l', m', f', h1, h2, h3⟩, h4⟩ := H3.out
        exact ⟨2, m', l', f', rfl, rfl, h1, by rw [h2]; simp, h3, below_gb H2.out h4 H2.out.size (by rw [HX.out]; exact Nat.le_refl _)⟩
    | 2, hi =>
      have hv' : sv l (val f m) = a + b := by rw [hv]; simp
      have HL := limiteds_calls x m l f wr (HH.out.1.to hbel) hW hm (by rw [hv']; exact hd)
      rw [hv'] at HL
      have H0 := Lib.hid hbel; clear hm hv hW hbel hv'
      go_wp2_with fail
      refine HL.mono ?_
      rintro e w6 ⟨rfl, hb6⟩
      clear HL
      go_wp2_with fail
      go_ret2
      exact ⟨rfl, below_trans H0.out hb6⟩
    | i + 3, hi => omega

set_option maxHeartbeats 1600000 in
theorem adds_calls (a b : Int) (w : World) (hg : Good w) (hda : (dg a).length ≤ 1024) (hdb : (dg b).length ≤ 1024) (hd : (dg (a + b)).length ≤ 1024) :
    Calls Tryz.prog 74 #[S a, S b] w fun e w' => e = .returned (.tuple #[S (a + b), .int .i64 0]) ∧ Below w.heap.size w w' := by
  by_cases hsh : (itoa a).length ≤ 9 ∧ (itoa b).length ≤ 9
  · exact add_short a b w hg hsh.1 hsh.2
  · have HH := Lib.hid hg; clear hg
    go_enter Tryz.func74, Tryz.ntmps74
    go_wp2_with fail
    refine (all_calls [a, b] _ _ _ (txts2 w a b _) (by simp [hda, hdb]) (by simp)).mono ?_
    rintro e w1 ⟨rfl, hb1⟩
    go_wp2_with fail
    refine (small_no a b _ (by omega)).mono ?_
    rintro e w2 ⟨rfl, hb2⟩
    have H2 := Lib.hid (below_trans (below_trans (alloc_below w _) hb1) hb2); clear hb1 hb2
    go_wp2_with fail
    refine (sums_calls a b _ _ ((HH.out.to H2.out).alloc _) (txts2 w2 a b _) hda hdb hd).mono ?_
    rintro e w3 ⟨rfl, hb3⟩
    go_wp2_with fail
    go_ret2
    exact ⟨rfl, below_trans H2.out (below_trans (alloc_below _ _) hb3)⟩

end Go.Proofs.YtgdlfjofefhdoaaGreatDoor
