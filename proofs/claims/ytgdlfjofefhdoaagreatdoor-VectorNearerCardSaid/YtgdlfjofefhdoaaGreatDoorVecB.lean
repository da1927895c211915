/- Package vector: Cross, Dot, Side, Square. -/
import Derived.Test.YtgdlfjofefhdoaaGreatDoorVecA
namespace Go.Proofs.YtgdlfjofefhdoaaGreatDoor
open Go.RowKit Go.Sort Go.Lib Mb

/-- a block that holds one point -/
def Bx (w : World) (b : Nat) (p : P2) : Prop := w.cell? ⟨b, 0, none⟩ = some (.int .i64 p.x) ∧ w.cell? ⟨b, 1, none⟩ = some (.int .i64 p.y)
theorem Bx.to {w w' : World} {b : Nat} {p : P2} (h : Bx w b p) (hb : Below w.heap.size w w') : Bx w' b p := ⟨cell_to h.1 hb, cell_to h.2 hb⟩
theorem bx_new (w : World) (p : P2) (t : TypeId) : Bx (w.alloc (.cells #[.int .i64 p.x, .int .i64 p.y] t)) w.heap.size p := ⟨cell_new _ _ _ _ _ rfl, cell_new _ _ _ _ _ rfl⟩

abbrev B2 (p : P2) (t : TypeId) : Obj := .cells #[.int .i64 p.x, .int .i64 p.y] t

theorem box2 (w : World) (a b : P2) (t u : TypeId) : Bx ((w.alloc (B2 a t)).alloc (B2 b u)) w.heap.size a ∧ Bx ((w.alloc (B2 a t)).alloc (B2 b u)) (w.heap.size + 1) b :=
  ⟨(bx_new _ _ _).to (alloc_below _ _), by have := bx_new (w.alloc (B2 a t)) b u; rwa [size_alloc1] at this⟩

theorem box3 (w : World) (a b c : P2) (t u v : TypeId) : Bx (((w.alloc (B2 a t)).alloc (B2 b u)).alloc (B2 c v)) w.heap.size a ∧ Bx (((w.alloc (B2 a t)).alloc (B2 b u)).alloc (B2 c v)) (w.heap.size + 1) b ∧ Bx (((w.alloc (B2 a t)).alloc (B2 b u)).alloc (B2 c v)) (w.heap.size + 2) c :=
  ⟨(box2 w a b t u).1.to (alloc_below _ _), (box2 w a b t u).2.to (alloc_below _ _), by have := bx_new ((w.alloc (B2 a t)).alloc (B2 b u)) c v; rwa [size_alloc1, size_alloc1] at this⟩

theorem pts_new2 (w : World) (a b : P2) (t : TypeId) : Pts (w.alloc (.cells #[.int .i64 a.x, .int .i64 a.y, .int .i64 b.x, .int .i64 b.y] t)) w.heap.size 0 [a, b] := by
  refine ⟨by simp, fun i h => ?_⟩
  match i, h with
  | 0, _ => exact ⟨cell_new _ _ _ _ _ rfl, cell_new _ _ _ _ _ rfl⟩
  | 1, _ => exact ⟨cell_new _ _ _ _ _ rfl, cell_new _ _ _ _ _ rfl⟩

theorem pts_new3 (w : World) (a b c : P2) (t : TypeId) : Pts (w.alloc (.cells #[.int .i64 a.x, .int .i64 a.y, .int .i64 b.x, .int .i64 b.y, .int .i64 c.x, .int .i64 c.y] t)) w.heap.size 0 [a, b, c] := by
  refine ⟨by simp, fun i h => ?_⟩
  match i, h with
  | 0, _ => exact ⟨cell_new _ _ _ _ _ rfl, cell_new _ _ _ _ _ rfl⟩
  | 1, _ => exact ⟨cell_new _ _ _ _ _ rfl, cell_new _ _ _ _ _ rfl⟩
  | 2, _ => exact ⟨cell_new _ _ _ _ _ rfl, cell_new _ _ _ _ _ rfl⟩

theorem allP_is (l : List P2) (k : Int) (hk : errOf l = k) (b o cap n : Nat) (hl : l.length = n) (w : World) (hT : Pts w b o l) (hn : l.length ≤ 1000000) :
    Calls Tryz.prog 51 #[.func (.func 52) #[] #[], .slice (some ⟨b, o, none⟩) n cap] w fun e w' => e = .returned (.int .i64 k) ∧ Below w.heap.size w w' := by
  subst hl; subst hk; exact allP_calls l b o cap w hT hn

theorem err_ok {l : List P2} (h : ∀ p ∈ l, flatB p = true) : errOf l = 0 := by
  unfold errOf; rw [if_pos (by simpa using h)]

set_option maxHeartbeats 800000 in
theorem Cross_ok (a b c : P2) (w : World) (ha : flatB a = true) (hb : flatB b = true) (hc : flatB c = true) :
    Calls Tryz.prog 62 #[V a, V b, V c] w fun e w' => e = .returned (.tuple #[.int .i64 (crs a b c), .int .i64 0]) ∧ Below w.heap.size w w' := by
  have he : errOf [a, b, c] = 0 := err_ok (by simp [ha, hb, hc])
  have hx := box3 w a b c 23 23 23
  have hp := pts_new3 (((w.alloc (B2 a 23)).alloc (B2 b 23)).alloc (B2 c 23)) a b c 23
  rw [size_alloc1, size_alloc1, size_alloc1] at hp
  have HX := Lib.hid (And.intro hx hp); clear hx hp
  have HE := Lib.hid he; clear he
  have HA := Lib.hid (And.intro (bd_flat ha) (And.intro (bd_flat hb) (bd_flat hc))); clear ha hb hc
  go_enter Tryz.func62, Tryz.ntmps62
  go_wp2_with fail
  refine (allP_is [a, b, c] 0 HE.out _ 0 _ 3 rfl _ HX.out.2 (by simp)).mono ?_
  rintro e w1 ⟨rfl, hb1⟩
  have hb0 := below_trans (below_trans (below3 w _ _ _) (alloc_below _ _)) hb1
  have h1 := (HX.out.1.1.to (alloc_below _ _)).to hb1
  have h2 := (HX.out.1.2.1.to (alloc_below _ _)).to hb1
  have h3 := (HX.out.1.2.2.to (alloc_below _ _)).to hb1
  clear HX hb1
  obtain ⟨k1, k2⟩ := h1
  obtain ⟨k3, k4⟩ := h2
  obtain ⟨k5, k6⟩ := h3
  go_wp2_with fail
  have hA := HA.out
  refine (cross_calls a b c _ (hA.1.mono (by omega)) (hA.2.1.mono (by omega)) (hA.2.2.mono (by omega))).mono ?_
  rintro e w2 ⟨rfl, hb2⟩
  go_wp2_with fail
  go_ret2
  exact ⟨rfl, below_trans hb0 hb2⟩

set_option maxHeartbeats 800000 in
theorem Cross_err (a b c : P2) (w : World) (he : errOf [a, b, c] = 2) :
    Calls Tryz.prog 62 #[V a, V b, V c] w fun e w' => e = .returned (.tuple #[.int .i64 0, .int .i64 2]) ∧ Below w.heap.size w w' := by
  have hp := pts_new3 (((w.alloc (B2 a 23)).alloc (B2 b 23)).alloc (B2 c 23)) a b c 23
  rw [size_alloc1, size_alloc1, size_alloc1] at hp
  have HX := Lib.hid hp; clear hp
  have HE := Lib.hid he; clear he
  go_enter Tryz.func62, Tryz.ntmps62
  go_wp2_with fail
  refine (allP_is [a, b, c] 2 HE.out _ 0 _ 3 rfl _ HX.out (by simp)).mono ?_
  rintro e w1 ⟨rfl, hb1⟩
  have hb0 := below_trans (below_trans (below3 w _ _ _) (alloc_below _ _)) hb1
  clear HX hb1
  go_wp2_with fail
  go_ret2
  exact ⟨rfl, hb0⟩

def sgn (n : Int) : Int := if n < 0 then -1 else if 0 < n then 1 else 0

theorem far_eq (a b : P2) : dt (sub b a) (sub b a) = far a b := rfl

set_option maxHeartbeats 800000 in
theorem Square_ok (a b : P2) (w : World) (ha : flatB a = true) (hb : flatB b = true) :
    Calls Tryz.prog 25 #[V a, V b] w fun e w' => e = .returned (.tuple #[.int .i64 (far a b), .int .i64 0]) ∧ Below w.heap.size w w' := by
  have he : errOf [a, b] = 0 := err_ok (by simp [ha, hb])
  have hx := box2 w a b 23 23
  have hp := pts_new2 ((w.alloc (B2 a 23)).alloc (B2 b 23)) a b 23
  rw [size_alloc1, size_alloc1] at hp
  have HX := Lib.hid (And.intro hx hp); clear hx hp
  have HE := Lib.hid he; clear he
  have HA := Lib.hid (And.intro (bd_flat ha) (bd_flat hb)); clear ha hb
  go_enter Tryz.func25, Tryz.ntmps25
  go_wp2_with fail
  refine (allP_is [a, b] 0 HE.out _ 0 _ 2 rfl _ HX.out.2 (by simp)).mono ?_
  rintro e w1 ⟨rfl, hb1⟩
  have hb0 := below_trans (below_trans (below2 w _ _) (alloc_below _ _)) hb1
  have h1 := (HX.out.1.1.to (alloc_below _ _)).to hb1
  have h2 := (HX.out.1.2.to (alloc_below _ _)).to hb1
  clear HX hb1
  obtain ⟨k1, k2⟩ := h1
  obtain ⟨k3, k4⟩ := h2
  go_wp2_with fail
  refine (to_calls a b _ (HA.out.1.mono (by omega)) (HA.out.2.mono (by omega))).mono ?_
  rintro e w2 ⟨rfl, hb2⟩
  have hs := (HA.out.1.sub HA.out.2).mono (show (100000 : Int) + 100000 ≤ 1000000000 by omega)
  have HS := Lib.hid hs; clear hs
  go_wp2_with fail
  refine (dot_calls _ _ _ HS.out HS.out).mono ?_
  rintro e w3 ⟨rfl, hb3⟩
  go_wp2_with fail
  go_ret2
  exact ⟨rfl, below_trans (below_trans (below_trans hb0 hb2) (alloc_below _ _)) hb3⟩

set_option maxHeartbeats 800000 in
theorem Square_err (a b : P2) (w : World) (he : errOf [a, b] = 2) :
    Calls Tryz.prog 25 #[V a, V b] w fun e w' => e = .returned (.tuple #[.int .i64 0, .int .i64 2]) ∧ Below w.heap.size w w' := by
  have hp := pts_new2 ((w.alloc (B2 a 23)).alloc (B2 b 23)) a b 23
  rw [size_alloc1, size_alloc1] at hp
  have HX := Lib.hid hp; clear hp
  have HE := Lib.hid he; clear he
  go_enter Tryz.func25, Tryz.ntmps25
  go_wp2_with fail
  refine (allP_is [a, b] 2 HE.out _ 0 _ 2 rfl _ HX.out (by simp)).mono ?_
  rintro e w1 ⟨rfl, hb1⟩
  have hb0 := below_trans (below_trans (below2 w _ _) (alloc_below _ _)) hb1
  clear HX hb1
  go_wp2_with fail
  go_ret2
  exact ⟨rfl, hb0⟩

end Go.Proofs.YtgdlfjofefhdoaaGreatDoor
