/- Package vector: Dot, squared, ToLine, ToSegment (over what the integers' operations do). -/
import Derived.Test.YtgdlfjofefhdoaaGreatDoorVecB
namespace Go.Proofs.YtgdlfjofefhdoaaGreatDoor
open Go.RowKit Go.Sort Go.Lib Mb

/-- a block known whole, nothing of it frozen -/
def Blk (w : World) (b : Nat) (cs : Array Value) (t : TypeId) : Prop := w.heap[b]? = some (.cells cs t (0, 0))
theorem Blk.c {w : World} {b : Nat} {cs : Array Value} {t : TypeId} (h : Blk w b cs t) (i : Nat) (v : Value) (hi : cs[i]? = some v) : w.cell? ⟨b, i, none⟩ = some v := by unfold Blk at h; simp [World.cell?, h, hi]
theorem Blk.free {w : World} {b : Nat} {cs : Array Value} {t : TypeId} (h : Blk w b cs t) (i : Nat) : w.frozen? ⟨b, i, none⟩ = false := by unfold Blk at h; simp [World.frozen?, h]
theorem Blk.lt {w : World} {b : Nat} {cs : Array Value} {t : TypeId} (h : Blk w b cs t) : b < w.heap.size := (Array.getElem?_eq_some_iff.1 h).1
theorem Blk.to {w w' : World} {b : Nat} {cs : Array Value} {t : TypeId} (h : Blk w b cs t) (hb : Below w.heap.size w w') : Blk w' b cs t := by unfold Blk at *; rw [hb.block b (Array.getElem?_eq_some_iff.1 h).1]; exact h
theorem blk_new (w : World) (cs : Array Value) (t : TypeId) : Blk (w.alloc (.cells cs t)) w.heap.size cs t := by unfold Blk World.alloc; simp
theorem blk_new1 (w : World) (o : Obj) (cs : Array Value) (t : TypeId) : Blk ((w.alloc o).alloc (.cells cs t)) (w.heap.size + 1) cs t := by have := blk_new (w.alloc o) cs t; rwa [size_alloc1] at this

theorem Blk.set {w : World} {b : Nat} {cs : Array Value} {t : TypeId} (h : Blk w b cs t) (i : Nat) (v : Value) : Blk (w.setCell ⟨b, i, none⟩ v) b (cs.setIfInBounds i v) t := by
  unfold Blk at *
  simp [World.setCell, Array.getElem?_modify, h]

set_option maxHeartbeats 400000 in
theorem toward_calls (a : P2) (w : World) (ha : Bd 1000000 a) :
    Calls Tryz.prog 78 #[V a] w fun e w' => e = .returned (V a) ∧ Below w.heap.size w w' := by
  have hz : Bd 1000000 ⟨0, 0⟩ := ⟨⟨by simp, by simp⟩, by simp, by simp⟩
  have HZ := Lib.hid (And.intro hz ha); clear hz ha
  have hsub : sub a ⟨0, 0⟩ = a := by unfold sub; simp
  have HS := Lib.hid hsub; clear hsub
  go_enter Tryz.func78, Tryz.ntmps78
  go_wp2_with fail
  refine (to_calls ⟨0, 0⟩ a _ HZ.out.1 HZ.out.2).mono ?_
  rintro e w1 ⟨rfl, hb1⟩
  have hb0 := below_trans (below2 w _ _) hb1
  have hn := (blk_new1 w (B2 a 23) #[.int .i64 0, .int .i64 0] 91).to hb1
  have c0 : w1.cell? ⟨w.heap.size + 1, 0, none⟩ = some (.int .i64 0) := hn.c 0 _ rfl
  have c1 : w1.cell? ⟨w.heap.size + 1, 1, none⟩ = some (.int .i64 0) := hn.c 1 _ rfl
  have f0 := hn.free 0
  have f1 := hn.free 1
  have r0 : (w1.setCell ⟨w.heap.size + 1, 0, none⟩ (.int .i64 a.x)).cell? ⟨w.heap.size + 1, 0, none⟩ = some (.int .i64 a.x) := (hn.set 0 _).c 0 _ rfl
  have r1 : ((w1.setCell ⟨w.heap.size + 1, 0, none⟩ (.int .i64 a.x)).setCell ⟨w.heap.size + 1, 1, none⟩ (.int .i64 a.y)).cell? ⟨w.heap.size + 1, 1, none⟩ = some (.int .i64 a.y) := ((hn.set 0 _).set 1 _).c 1 _ rfl
  rw [HS.out]
  have HN := Lib.hid (And.intro hn hb0); clear hn hb0 hb1
  go_wp2_with fail
  refine bodyPost_ret (v := V a) (by simp [results, Tryz.results78, go_sem, r0, r1]) rfl ⟨rfl, ?_⟩
  exact (HN.out.2.setCell (p := ⟨w.heap.size + 1, 0, none⟩) (Nat.le_succ _) _).setCell (p := ⟨w.heap.size + 1, 1, none⟩) (Nat.le_succ _) _

theorem dt_sub0 (a b : P2) : dt a b = a.x * b.x + a.y * b.y := rfl

set_option maxHeartbeats 800000 in
theorem Dot_ok (a b : P2) (w : World) (ha : flatB a = true) (hb : flatB b = true) :
    Calls Tryz.prog 26 #[V a, V b] w fun e w' => e = .returned (.tuple #[.int .i64 (dt a b), .int .i64 0]) ∧ Below w.heap.size w w' := by
  have he : errOf [a, b] = 0 := err_ok (by simp [ha, hb])
  have hx := box2 w a b 23 23
  have hp := pts_new2 ((w.alloc (B2 a 23)).alloc (B2 b 23)) a b 23
  rw [size_alloc1, size_alloc1] at hp
  have HX := Lib.hid (And.intro hx hp); clear hx hp
  have HE := Lib.hid he; clear he
  have HA := Lib.hid (And.intro (bd_flat ha) (bd_flat hb)); clear ha hb
  go_enter Tryz.func26, Tryz.ntmps26
  go_wp2_with fail
  refine (allP_is [a, b] 0 HE.out _ 0 _ 2 rfl _ HX.out.2 (by simp)).mono ?_
  rintro e w1 ⟨rfl, hb1⟩
  have hb0 := below_trans (below_trans (below2 w _ _) (alloc_below _ _)) hb1
  have h1 := (HX.out.1.1.to (alloc_below _ _)).to hb1
  have h2 := (HX.out.1.2.to (alloc_below _ _)).to hb1
  clear HX hb1
  have k1 := cell_regrown h1.1
  have k2 := cell_regrown h1.2
  have k3 := cell_regrown h2.1
  have k4 := cell_regrown h2.2
  have q1 : ∀ d os, Calls Tryz.prog 78 #[V a] (grow (redrawn w1 d) os) fun e w'' => e = .returned (V a) ∧ ∃ p : Regrown, w'' = grow (redrawn w1 p.d) p.os := fun d os => Calls.regrown_of (toward_calls a _ (HA.out.1.mono (by omega)))
  have q2 : ∀ d os, Calls Tryz.prog 78 #[V b] (grow (redrawn w1 d) os) fun e w'' => e = .returned (V b) ∧ ∃ p : Regrown, w'' = grow (redrawn w1 p.d) p.os := fun d os => Calls.regrown_of (toward_calls b _ (HA.out.2.mono (by omega)))
  have q3 : ∀ d os, Calls Tryz.prog 57 #[V a, V b] (grow (redrawn w1 d) os) fun e w'' => e = .returned (.int .i64 (dt a b)) ∧ ∃ p : Regrown, w'' = grow (redrawn w1 p.d) p.os := fun d os => Calls.regrown_of (dot_calls _ _ _ (HA.out.1.mono (by omega)) (HA.out.2.mono (by omega)))
  clear h1 h2
  go_wp2_with fail
  refine wp_region_quiet_below follows (by kernel_rfl) ?_
  repeat (quiet_step (first | with_reducible exact q1 _ _ | with_reducible exact q2 _ _ | with_reducible exact q3 _ _))
  refine wpQuiet_nil ?_
  intro _ hw'
  obtain ⟨⟨dq, osq⟩, hw''⟩ := hw'
  subst hw''
  go_wp2_with fail
  go_ret2
  exact ⟨rfl, below_trans hb0 (below_regrown w1 dq osq)⟩

set_option maxHeartbeats 800000 in
theorem Dot_err (a b : P2) (w : World) (he : errOf [a, b] = 2) :
    Calls Tryz.prog 26 #[V a, V b] w fun e w' => e = .returned (.tuple #[.int .i64 0, .int .i64 2]) ∧ Below w.heap.size w w' := by
  have hp := pts_new2 ((w.alloc (B2 a 23)).alloc (B2 b 23)) a b 23
  rw [size_alloc1, size_alloc1] at hp
  have HX := Lib.hid hp; clear hp
  have HE := Lib.hid he; clear he
  go_enter Tryz.func26, Tryz.ntmps26
  go_wp2_with fail
  refine (allP_is [a, b] 2 HE.out _ 0 _ 2 rfl _ HX.out (by simp)).mono ?_
  rintro e w1 ⟨rfl, hb1⟩
  have hb0 := below_trans (below_trans (below2 w _ _) (alloc_below _ _)) hb1
  clear HX hb1
  go_wp2_with fail
  go_ret2
  exact ⟨rfl, hb0⟩

end Go.Proofs.YtgdlfjofefhdoaaGreatDoor
