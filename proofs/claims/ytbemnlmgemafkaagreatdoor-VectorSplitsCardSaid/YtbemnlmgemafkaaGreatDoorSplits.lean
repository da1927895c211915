/- The walk of VectorSplits. -/
import Derived.Test.YtbemnlmgemafkaaGreatDoorArea
import Derived.Test.YtbemnlmgemafkaaGreatDoorIdxL
import Derived.Test.YtbemnlmgemafkaaGreatDoorAwake
namespace Go.Proofs.YtbemnlmgemafkaaGreatDoor
open Go.RowKit Go.Sort Go.Lib Mb

theorem near_flat {p : P2} (h : nearB p = true) : flatB p = true := by
  simp only [nearB, nearI, Bool.and_eq_true, decide_eq_true_eq] at h
  simp only [flatB, inB, Bool.and_eq_true, decide_eq_true_eq]; omega

theorem crs_bd2 {a b c : P2} (ha : Bd 100000 a) (hb : Bd 100000 b) (hc : Bd 100000 c) : -80000000000 ≤ crs a b c ∧ crs a b c ≤ 80000000000 := by
  have h1 := ha.sub hb
  have h2 := ha.sub hc
  have e1 := Mb.mul_bd h1.1 h2.2
  have e2 := Mb.mul_bd h1.2 h2.1
  rw [← crs_def]
  omega

/-- the crosses with p, up to the i-th side -/
def spTo (p : P2) (l : List P2) (i : Nat) : Int := sumN (fun j => crs p (g2 l j) (g2 l ((j + 1) % l.length))) i
theorem spTo_area (p : P2) (l : List P2) : spTo p l l.length = areaOf l := split_area p (g2 l) l.length
theorem spTo_bd {p : P2} {l : List P2} (hp : Bd 100000 p) (h : errOf l = 0) {i : Nat} (hi : i ≤ l.length) (hn : l.length ≤ 8) : -1000000000000 ≤ spTo p l i ∧ spTo p l i ≤ 1000000000000 := by
  have hb := sumN_bd (f := fun j => crs p (g2 l j) (g2 l ((j + 1) % l.length))) (M := 80000000000) (k := i) (fun j hj => crs_bd2 hp (g2_bd h (by omega)) (g2_bd h (Nat.mod_lt _ (by omega))))
  unfold spTo
  omega

theorem pts_new1 (w : World) (a : P2) (t : TypeId) : Pts (w.alloc (.cells #[.int .i64 a.x, .int .i64 a.y] t)) w.heap.size 0 [a] := by
  refine ⟨by simp, fun i h => ?_⟩
  match i, h with
  | 0, _ => exact ⟨cell_new _ _ _ _ _ rfl, cell_new _ _ _ _ _ rfl⟩

set_option maxHeartbeats 1600000 in
theorem splits_far (l : List P2) (a : Option Addr) (cap : Nat) (m : P2) (w : World) (hg : Good w) (hT : Sl2 w a l) (hn : l.length ≤ 9223372036854775807) (hf : 8 < l.length ∨ l.all nearB = false ∨ nearB m = false) :
    Calls Tryz.prog 6 #[.slice a l.length cap, V m] w fun e w' => e = .returned (.bool true) ∧ Below w.heap.size w w' := by
  have HT := Lib.hid (And.intro hg hT); clear hg hT
  have hbx := bx_new w m 23
  by_cases h8 : 8 < l.length
  · have h8' : (8 : Int) < l.length := by omega
    clear hf
    go_enter Tryz.func6, Tryz.ntmps6
    go_wp2_with fail
    refine (awake_calls _ (HT.out.1.to (alloc_below _ _))).mono ?_
    rintro e w2 ⟨rfl, hb2⟩
    go_wp2_with fail
    go_ret
    exact ⟨rfl, below_trans (alloc_below _ _) hb2⟩
  · have h8' : ¬ (8 : Int) < l.length := by omega
    have H := fun W b => nearL_calls l a l.length cap rfl W b (by omega)
    cases hl : l.all nearB with
    | false =>
      rw [hl] at H
      clear hf hl
      go_enter Tryz.func6, Tryz.ntmps6
      go_wp2_with fail
      refine (H _ (HT.out.2.to (alloc_below _ _))).mono ?_
      rintro e w1 ⟨rfl, hb1⟩
      have hb3 := below_trans (alloc_below _ _) hb1
      clear hb1
      go_wp2_with fail
      refine (awake_calls _ (HT.out.1.to hb3)).mono ?_
      rintro e w2 ⟨rfl, hb2⟩
      go_wp2_with fail
      go_ret
      exact ⟨rfl, below_trans hb3 hb2⟩
    | true =>
      have hm : nearB m = false := by rcases hf with h | h | h; exact absurd h h8; rw [hl] at h; cases h; exact h
      rw [hl] at H
      clear hf hl
      have H2 := fun W b o cap' (h : Pts W b o [m]) => near_calls [m] b o 1 cap' rfl W h (by simp)
      rw [show [m].all nearB = false by simp [hm]] at H2
      go_enter Tryz.func6, Tryz.ntmps6
      go_wp2_with fail
      refine (H _ (HT.out.2.to (alloc_below _ _))).mono ?_
      rintro e w1 ⟨rfl, hb1⟩
      have hb3 := below_trans (alloc_below _ _) hb1
      obtain ⟨x1, x2⟩ := hbx.to hb1
      clear hb1 hbx H
      go_wp2_with fail
      refine (H2 _ _ _ _ (pts_new1 _ _ _)).mono ?_
      rintro e w4 ⟨rfl, hb4⟩
      have hb5 := below_trans hb3 (below_trans (alloc_below _ _) hb4)
      clear hb4 hb3 x1 x2 H2
      go_wp2_with fail
      refine (awake_calls _ (HT.out.1.to hb5)).mono ?_
      rintro e w2 ⟨rfl, hb2⟩
      go_wp2_with fail
      go_ret
      exact ⟨rfl, below_trans hb5 hb2⟩

set_option maxHeartbeats 3200000 in
theorem splits_near (l : List P2) (a : Option Addr) (cap : Nat) (m : P2) (w : World) (hg : Good w) (hT : Sl2 w a l) (h8 : l.length ≤ 8) (hl : l.all nearB = true) (hm : nearB m = true) :
    Calls Tryz.prog 6 #[.slice a l.length cap, V m] w fun e w' => e = .returned (.bool true) ∧ Below w.heap.size w w' := by
  have h8' : ¬ (8 : Int) < l.length := by omega
  have H := fun W b => nearL_calls l a l.length cap rfl W b (by omega)
  have H2 := fun W b o cap' (h : Pts W b o [m]) => near_calls [m] b o 1 cap' rfl W h (by simp)
  rw [hl] at H
  rw [show [m].all nearB = true by simp [hm]] at H2
  have he : errOf l = 0 := err_ok fun p hp => near_flat (List.all_eq_true.1 hl p hp)
  have hmf : flatB m = true := near_flat hm
  have hbx := bx_new w m 23
  have HT := Lib.hid (And.intro hg (And.intro hT (And.intro he hmf))); clear hg hT he hmf hl hm
  go_enter Tryz.func6, Tryz.ntmps6
  go_wp2_with fail
  refine (H _ (HT.out.2.1.to (alloc_below _ _))).mono ?_
  rintro e w1 ⟨rfl, hb1⟩
  have hb3 := below_trans (alloc_below _ _) hb1
  have hbx1 := hbx.to hb1
  have HX1 := Lib.hid hbx1
  obtain ⟨x1, x2⟩ := hbx1
  clear hb1 hbx H
  go_wp2_with fail
  refine (H2 _ _ _ _ (pts_new1 _ _ _)).mono ?_
  rintro e w4 ⟨rfl, hb4⟩
  have hb5 := below_trans hb3 (below_trans (alloc_below _ _) hb4)
  have HX := Lib.hid (And.intro hb5 (HX1.out.to (below_trans (alloc_below _ _) hb4)))
  clear hb4 hb3 hb5 x1 x2 H2 HX1
  go_wp2_with fail
  go_loopg [5, 29] l.length (fun g s v wr => ∃ i : Nat, i + g = l.length ∧ s = .int .i64 (spTo m l i) ∧ v = .int .i64 i ∧ Below w4.heap.size w4 wr)
  case atStart => exact ⟨0, Nat.zero_add _, rfl, rfl, Below.refl _ _⟩
  case round =>
    obtain ⟨i, hi, rfl, rfl, hbel⟩ := hrel
    have H1 := Lib.hid (And.intro hbel (below_trans HX.out.1 hbel)); clear hbel
    by_cases hlt : i < l.length
    · have hT4 := HT.out.2.1.to H1.out.2
      obtain ⟨k, hk⟩ : ∃ k, (i + 1) % l.length = k := ⟨_, rfl⟩
      have hkl : k < l.length := hk ▸ Nat.mod_lt _ (by omega)
      obtain ⟨b, o, rfl, -, c1, c2⟩ := g2_cells hT4 hlt
      obtain ⟨b', o', e', -, c4, c5⟩ := g2_cells hT4 hkl
      cases e'
      clear hT4
      have i1 : ((i : Int) < l.length) := by omega
      have i2 : ((k : Int) < l.length) := by omega
      have n0 : (l.length : Int) ≠ 0 := by omega
      have n1 : l ≠ [] := by intro e; rw [e] at hlt; exact Nat.not_lt_zero _ hlt
      have hr : ((i : Int) + 1).tmod (l.length : Int) = (k : Int) := by
        rw [← hk, show (i : Int) + 1 = ((i + 1 : Nat) : Int) by omega, Int.tmod_eq_emod_of_nonneg (by omega)]; rfl
      have hs1 := spTo_bd (bd_flat HT.out.2.2.2) HT.out.2.2.1 (i := i) (by omega) h8
      have hs2 := spTo_bd (bd_flat HT.out.2.2.2) HT.out.2.2.1 (i := i + 1) (by omega) h8
      have hs3 : spTo m l (i + 1) = spTo m l i + crs m (g2 l i) (g2 l k) := by rw [← hk]; rfl
      rw [hs3] at hs2
      obtain ⟨s, hs⟩ : ∃ s, spTo m l i = s := ⟨_, rfl⟩
      obtain ⟨t, ht⟩ : ∃ t, crs m (g2 l i) (g2 l k) = t := ⟨_, rfl⟩
      rw [hs] at hs1 hs2 hs3 ⊢
      rw [ht] at hs2 hs3
      have HS := Lib.hid (And.intro hs3 ht); clear hs3 hs ht
      obtain ⟨s1, s2⟩ := hs1
      obtain ⟨s3, s4⟩ := hs2
      clear hk
      have w1' : IntKind.i64.wrap ((i : Int) + 1) = (i : Int) + 1 := IntWalk.i64_in _ (by omega)
      have w2' : IntKind.i64.wrap (s + t) = s + t := IntWalk.i64_in _ (by omega)
      go_wp2_with fail
      obtain ⟨W5, hW5⟩ : ∃ W5, W5 = wr.alloc (.cells #[.int .i64 (g2 l i).x, .int .i64 (g2 l i).y] 23) := ⟨_, rfl⟩
      obtain ⟨B5, hB5⟩ : ∃ B5, B5 = wr.heap.size := ⟨_, rfl⟩
      have hp5 : Bx W5 B5 (g2 l i) := by rw [hW5, hB5]; exact bx_new _ _ _
      have hbW5 : Below wr.heap.size wr W5 := by rw [hW5]; exact alloc_below _ _
      rw [← hW5, ← hB5]
      clear hW5 hB5
      obtain ⟨y1, y2⟩ := hp5
      obtain ⟨z1, z2⟩ := (HX.out.2.to H1.out.1).to hbW5
      have k1 := cell_regrown y1
      have k2 := cell_regrown y2
      have k3 := cell_regrown z1
      have k4 := cell_regrown z2
      have k5 := cell_regrown (cell_to c4 hbW5)
      have k6 := cell_regrown (cell_to c5 hbW5)
      clear c1 c2 c4 c5 y1 y2 z1 z2
      have q : ∀ d os, Calls Tryz.prog 28 #[V m, V (g2 l i), V (g2 l k)] (grow (redrawn W5 d) os) fun e w'' => e = .returned (.tuple #[.int .i64 (crs m (g2 l i) (g2 l k)), .int .i64 0]) ∧ ∃ p : Regrown, w'' = grow (redrawn W5 p.d) p.os := fun d os => Calls.regrown_of (Cross_ok _ _ _ _ HT.out.2.2.2 (by rw [g2_get hlt]; exact errOf_ok HT.out.2.2.1 _ (List.getElem_mem hlt)) (by rw [g2_get hkl]; exact errOf_ok HT.out.2.2.1 _ (List.getElem_mem hkl)))
      rw [HS.out.2] at q
      have HW5 := Lib.hid hbW5; clear hbW5
      refine wp_region_quiet_below follows (by kernel_rfl) ?_
      repeat (quiet_step (first | with_reducible exact q _ _))
      refine wpQuiet_nil ?_
      intro _ hw'
      obtain ⟨⟨dq, osq⟩, hw''⟩ := hw'
      subst hw''
      go_wp2_with fail
      go_roundg (l.length - i - 1)
      case measure => omega
      case rel => exact ⟨i + 1, by omega, by rw [HS.out.1], by go_num, H1.out.1.trans ((HW5.out.trans ((below_regrown W5 dq osq).mono HW5.out.size)).mono H1.out.1.size)⟩
    · have hil : i = l.length := by omega
      subst hil
      have hs4 := spTo_area m l
      obtain ⟨s, hs⟩ : ∃ s, spTo m l l.length = s := ⟨_, rfl⟩
      rw [hs] at hs4 ⊢
      clear hs
      have HA := area_calls l a cap wr (HT.out.2.1.to H1.out.2) (by omega) HT.out.2.2.1
      rw [← hs4] at HA
      clear hs4
      go_wp2_with fail
      refine HA.mono ?_
      rintro e w6 ⟨rfl, hb6⟩
      have hb7 := below_trans H1.out.2 hb6
      clear HA hb6
      go_wp2_with fail
      refine (awake_calls _ (HT.out.1.to hb7)).mono ?_
      rintro e w8 ⟨rfl, hb8⟩
      go_wp2_with fail
      go_ret
      exact ⟨ret_b (by simp), below_trans hb7 hb8⟩

theorem splits_calls (l : List P2) (a : Option Addr) (cap : Nat) (m : P2) (w : World) (hg : Good w) (hT : Sl2 w a l) (hn : l.length ≤ maxLen) :
    Calls Tryz.prog 6 #[.slice a l.length cap, V m] w fun e w' => e = .returned (.bool true) ∧ Below w.heap.size w w' := by
  by_cases hf : 8 < l.length ∨ l.all nearB = false ∨ nearB m = false
  · exact splits_far l a cap m w hg hT (Nat.le_trans hn (by decide)) hf
  · simp only [not_or, Bool.not_eq_false] at hf
    exact splits_near l a cap m w hg hT (by omega) hf.2.1 hf.2.2

end Go.Proofs.YtbemnlmgemafkaaGreatDoor
