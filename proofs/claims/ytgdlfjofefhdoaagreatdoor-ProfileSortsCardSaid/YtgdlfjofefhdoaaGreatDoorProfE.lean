/- Package profile: crossed, location, Inside. -/
import Derived.Test.YtgdlfjofefhdoaaGreatDoorProfD
namespace Go.Proofs.YtgdlfjofefhdoaaGreatDoor
open Go.RowKit Go.Sort Go.Lib Go.Shelf Mb

attribute [local go_sem] Oper.semAt_some

/-- whether the ray from a point in the direction of X crosses a segment that goes up -/
def upX (a b p : P2) : Bool := decide (a.y ≤ p.y) && (decide (p.y < b.y) && decide (0 < tw (sub b a) (sub p a)))
def crX (u v p : P2) : Bool := if v.y < u.y then upX v u p else upX u v p

theorem upX_lo {a b p : P2} (h : p.y < a.y) : upX a b p = false := by unfold upX; rw [decide_eq_false (by omega), Bool.false_and]
theorem upX_hi {a b p : P2} (h : b.y ≤ p.y) : upX a b p = false := by unfold upX; rw [decide_eq_false (p := p.y < b.y) (by omega), Bool.false_and, Bool.and_false]
theorem upX_in {a b p : P2} (h : ¬ p.y < a.y) (k : ¬ b.y ≤ p.y) : upX a b p = decide (0 < tw (sub b a) (sub p a)) := by unfold upX; rw [decide_eq_true (p := a.y ≤ p.y) (by omega), decide_eq_true (p := p.y < b.y) (by omega), Bool.true_and, Bool.true_and]
theorem b_al {n : Nat} {A B : World} {o : Obj} (h : Below n A B) (hn : n ≤ B.heap.size) : Below n A (B.alloc o) := h.trans ((alloc_below B o).mono hn)
theorem b_dr {n : Nat} {A B : World} (h : Below n A B) : Below n A B.drew := by
  have := below_drewN h 1
  rwa [← World.drew_is_drewN] at this
theorem b_set {n S i : Nat} {A B : World} {v : Value} (h : Below n A B) (hn : n ≤ S) : Below n A (B.setCell ⟨S, i, none⟩ v) := h.setCell (p := ⟨S, i, none⟩) hn v

set_option maxRecDepth 100000 in
set_option maxHeartbeats 3200000 in
theorem crossed_calls (u v p : P2) (w : World) (hu : Bd 100000 u) (hv : Bd 100000 v) (hp : Bd 100000 p) :
    Calls Tryz.prog 138 #[V22 u v, V p] w fun e w' => e = .returned (.bool (crX u v p)) ∧ Below w.heap.size w w' := by
  obtain ⟨ux, uy⟩ := u
  obtain ⟨vx, vy⟩ := v
  obtain ⟨px, py⟩ := p
  have u1 := hu.1.1; have u2 := hu.1.2; have u3 := hu.2.1; have u4 := hu.2.2
  have v1 := hv.1.1; have v2 := hv.1.2; have v3 := hv.2.1; have v4 := hv.2.2
  have p1 := hp.1.1; have p2 := hp.1.2; have p3 := hp.2.1; have p4 := hp.2.2
  simp only at u1 u2 u3 u4 v1 v2 v3 v4 p1 p2 p3 p4
  by_cases h : vy < uy
  · have hs : crX ⟨ux, uy⟩ ⟨vx, vy⟩ ⟨px, py⟩ = upX ⟨vx, vy⟩ ⟨ux, uy⟩ ⟨px, py⟩ := by unfold crX; rw [if_pos h]
    rw [hs]
    have m := dot_bd (M := 200000) (Bd.sub (M := 100000) (N := 100000) hv hu) (Bd.sub (M := 100000) (N := 100000) hv hp)
    simp only [sub] at m
    obtain ⟨-, -, ⟨m1, m2⟩, m3, m4⟩ := m
    rw [show (200000 : Int) * 200000 = 40000000000 from rfl] at m1 m2 m3 m4
    have k1 : -200000 ≤ ux - vx ∧ ux - vx ≤ 200000 := by omega
    have k2 : -200000 ≤ uy - vy ∧ uy - vy ≤ 200000 := by omega
    have k3 : -200000 ≤ px - vx ∧ px - vx ≤ 200000 := by omega
    have k4 : -200000 ≤ py - vy ∧ py - vy ≤ 200000 := by omega
    obtain ⟨k1, k1'⟩ := k1; obtain ⟨k2, k2'⟩ := k2; obtain ⟨k3, k3'⟩ := k3; obtain ⟨k4, k4'⟩ := k4
    clear hu hv hp hs
    have HU : ∀ b, upX ⟨vx, vy⟩ ⟨ux, uy⟩ ⟨px, py⟩ = b → upX ⟨vx, vy⟩ ⟨ux, uy⟩ ⟨px, py⟩ = b := fun _ h => h
    by_cases hA : py < vy
    · rw [show upX ⟨vx, vy⟩ ⟨ux, uy⟩ ⟨px, py⟩ = false from upX_lo hA]
      clear m1 m2 m3 m4 HU
      go_enter Tryz.func138, Tryz.ntmps138
      go_wp2_with fail
      go_region
      all_goals (go_wp2_with fail; go_ret; refine ⟨rfl, ?_⟩)
      all_goals repeat' (first | exact Below.refl _ _ | (refine b_al ?_ (by first | (simp; done) | (simp; omega))) | apply b_dr | (refine b_set ?_ (by omega)) | omega)
    · by_cases hB : uy ≤ py
      · rw [show upX ⟨vx, vy⟩ ⟨ux, uy⟩ ⟨px, py⟩ = false from upX_hi hB]
        clear m1 m2 m3 m4 HU
        go_enter Tryz.func138, Tryz.ntmps138
        go_wp2_with fail
        go_region
        all_goals (go_wp2_with fail; go_ret; refine ⟨rfl, ?_⟩)
        all_goals repeat' (first | exact Below.refl _ _ | (refine b_al ?_ (by first | (simp; done) | (simp; omega))) | apply b_dr | (refine b_set ?_ (by omega)) | omega)
      · rw [show upX ⟨vx, vy⟩ ⟨ux, uy⟩ ⟨px, py⟩ = decide (0 < tw (sub ⟨ux, uy⟩ ⟨vx, vy⟩) (sub ⟨px, py⟩ ⟨vx, vy⟩)) from upX_in hA hB]
        clear HU
        go_enter Tryz.func138, Tryz.ntmps138
        go_wp2_with fail
        go_region
        all_goals (go_wp2_with fail; go_ret; refine ⟨ret_b (decide_eq_decide.2 (by simp only [tw, sub]; constructor <;> intro h <;> omega)), ?_⟩)
        all_goals repeat' (first | exact Below.refl _ _ | (refine b_al ?_ (by first | (simp; done) | (simp; omega))) | apply b_dr | (refine b_set ?_ (by omega)) | omega)
  · have hs : crX ⟨ux, uy⟩ ⟨vx, vy⟩ ⟨px, py⟩ = upX ⟨ux, uy⟩ ⟨vx, vy⟩ ⟨px, py⟩ := by unfold crX; rw [if_neg h]
    rw [hs]
    have m := dot_bd (M := 200000) (Bd.sub (M := 100000) (N := 100000) hu hv) (Bd.sub (M := 100000) (N := 100000) hu hp)
    simp only [sub] at m
    obtain ⟨-, -, ⟨m1, m2⟩, m3, m4⟩ := m
    rw [show (200000 : Int) * 200000 = 40000000000 from rfl] at m1 m2 m3 m4
    have k1 : -200000 ≤ vx - ux ∧ vx - ux ≤ 200000 := by omega
    have k2 : -200000 ≤ vy - uy ∧ vy - uy ≤ 200000 := by omega
    have k3 : -200000 ≤ px - ux ∧ px - ux ≤ 200000 := by omega
    have k4 : -200000 ≤ py - uy ∧ py - uy ≤ 200000 := by omega
    obtain ⟨k1, k1'⟩ := k1; obtain ⟨k2, k2'⟩ := k2; obtain ⟨k3, k3'⟩ := k3; obtain ⟨k4, k4'⟩ := k4
    clear hu hv hp hs
    have HU : ∀ b, upX ⟨ux, uy⟩ ⟨vx, vy⟩ ⟨px, py⟩ = b → upX ⟨ux, uy⟩ ⟨vx, vy⟩ ⟨px, py⟩ = b := fun _ h => h
    by_cases hA : py < uy
    · rw [show upX ⟨ux, uy⟩ ⟨vx, vy⟩ ⟨px, py⟩ = false from upX_lo hA]
      clear m1 m2 m3 m4 HU
      go_enter Tryz.func138, Tryz.ntmps138
      go_wp2_with fail
      go_region
      all_goals (go_wp2_with fail; go_ret; refine ⟨rfl, ?_⟩)
      all_goals repeat' (first | exact Below.refl _ _ | (refine b_al ?_ (by first | (simp; done) | (simp; omega))) | apply b_dr | (refine b_set ?_ (by omega)) | omega)
    · by_cases hB : vy ≤ py
      · rw [show upX ⟨ux, uy⟩ ⟨vx, vy⟩ ⟨px, py⟩ = false from upX_hi hB]
        clear m1 m2 m3 m4 HU
        go_enter Tryz.func138, Tryz.ntmps138
        go_wp2_with fail
        go_region
        all_goals (go_wp2_with fail; go_ret; refine ⟨rfl, ?_⟩)
        all_goals repeat' (first | exact Below.refl _ _ | (refine b_al ?_ (by first | (simp; done) | (simp; omega))) | apply b_dr | (refine b_set ?_ (by omega)) | omega)
      · rw [show upX ⟨ux, uy⟩ ⟨vx, vy⟩ ⟨px, py⟩ = decide (0 < tw (sub ⟨vx, vy⟩ ⟨ux, uy⟩) (sub ⟨px, py⟩ ⟨ux, uy⟩)) from upX_in hA hB]
        clear HU
        go_enter Tryz.func138, Tryz.ntmps138
        go_wp2_with fail
        go_region
        all_goals (go_wp2_with fail; go_ret; refine ⟨ret_b (decide_eq_decide.2 (by simp only [tw, sub]; constructor <;> intro h <;> omega)), ?_⟩)
        all_goals repeat' (first | exact Below.refl _ _ | (refine b_al ?_ (by first | (simp; done) | (simp; omega))) | apply b_dr | (refine b_set ?_ (by omega)) | omega)

end Go.Proofs.YtgdlfjofefhdoaaGreatDoor
