/- Package ratio: Mul, Add, Compare. -/
import Derived.Test.YtgdlfjofefhdoaaGreatDoorRatD
import Derived.BigQuiet
namespace Go.Proofs.YtgdlfjofefhdoaaGreatDoor
open Go.RowKit Go.Sort Go.Lib Mb

theorem R_cells (w : World) (u v : Value) (t : Nat) : (w.alloc (.cells #[u, v] t)).cell? ⟨w.heap.size, 0, none⟩ = some u ∧ (w.alloc (.cells #[u, v] t)).cell? ⟨w.heap.size, 1, none⟩ = some v ∧ w.heap.size < (w.alloc (.cells #[u, v] t)).heap.size := by
  unfold World.alloc; simp [World.cell?]

set_option maxRecDepth 100000 in
set_option maxHeartbeats 800000 in
theorem rcompare_calls (n p m q : Int) (w : World) (hg : Good w) (hr : Rat2 n p) (hs : Rat2 m q) (l1 : (dg (n * q)).length ≤ 1024) (l2 : (dg (m * p)).length ≤ 1024) :
    Calls Tryz.prog 28 #[R n p, R m q] w fun e w' => e = .returned (.tuple #[.int .i64 (cmp3 (n * q) (m * p)), .int .i64 0]) ∧ Below w.heap.size w w' := by
  have H := Lib.hid (And.intro hg (And.intro hr hs)); clear hg hr hs
  have HR := R_cells w (R n p) (R m q) 24
  go_enter Tryz.func28, Tryz.ntmps28
  go_wp2_with fail
  refine (checks_calls _ _ n p m q _ (H.out.1.alloc _) H.out.2.1 H.out.2.2 HR.2.2 HR.1 HR.2.1).mono ?_
  rintro e w1 ⟨rfl, hb1⟩
  clear HR
  have H1 := Lib.hid (below_trans (alloc_below w _) hb1); clear hb1
  go_wp2_with fail
  refine (rcut_calls n p _ (H.out.1.to H1.out) H.out.2.1).mono ?_
  rintro e w2 ⟨rfl, hb2⟩
  have H2 := Lib.hid (below_trans H1.out hb2); clear hb2
  go_wp2_with fail
  refine (rcut_calls m q _ (H.out.1.to H2.out) H.out.2.2).mono ?_
  rintro e w3 ⟨rfl, hb3⟩
  have H3 := Lib.hid (below_trans H2.out hb3); clear hb3
  go_wp2_with fail
  obtain ⟨w4, hw4⟩ : ∃ w4, w4 = w3.alloc (.cells #[.int .i64 0] 121) := ⟨_, rfl⟩
  obtain ⟨s, hs⟩ : ∃ s, s = w3.heap.size := ⟨_, rfl⟩
  have hsz : w3.heap.size + 1 = w4.heap.size := by rw [hw4, World.size_alloc]
  rw [← hw4, hsz, ← hs]
  have hS : Sums w4 s := by rw [hw4, hs]; exact sums_new w3
  have hb4 : Below w.heap.size w w4 := by rw [hw4]; exact below_trans H3.out (alloc_below w3 _)
  have H4 := Lib.hid (And.intro hS hb4); clear hS hb4 hw4 hs hsz
  refine (smul_calls s _ _ n q _ ((H.out.1.to H4.out.2).alloc _) (H4.out.1.to (alloc_below _ _)) (txts2 w4 n q _) H.out.2.1.lp H.out.2.2.lq l1).mono ?_
  rintro e w5 ⟨rfl, hb5⟩
  have H5 := Lib.hid (And.intro ((H4.out.1.to (alloc_below _ _)).to hb5) (below_trans H4.out.2 (below_trans (alloc_below w4 _) hb5))); clear hb5
  go_wp2_with fail
  refine (smul_calls s _ _ m p _ ((H.out.1.to H5.out.2).alloc _) (H5.out.1.to (alloc_below _ _)) (txts2 w5 m p _) H.out.2.2.lp H.out.2.1.lq l2).mono ?_
  rintro e w6 ⟨rfl, hb6⟩
  have hs6 := (H5.out.1.to (alloc_below w5 _)).to hb6
  have c6 := hs6.c
  have H6 := Lib.hid (below_trans H5.out.2 (below_trans (alloc_below w5 _) hb6)); clear hb6 hs6
  go_wp2_with fail
  refine (wcompare_calls (n * q) (m * p) w6 l1 l2).mono ?_
  rintro e w7 ⟨rfl, hb7⟩
  go_wp2_with fail
  go_ret2
  exact ⟨rfl, below_trans H6.out hb7⟩

end Go.Proofs.YtgdlfjofefhdoaaGreatDoor
