/- The reference's crossed, Location, Inside. -/
import Derived.Test.YtgdlfjofefhdoaaGreatDoorSegB
import Derived.Test.YtgdlfjofefhdoaaGreatDoorProfF
namespace Go.Proofs.YtgdlfjofefhdoaaGreatDoor
open Go.RowKit Go.Sort Go.Lib Go.Shelf Mb

attribute [local go_sem] Oper.semAt_some

set_option maxRecDepth 100000 in
set_option maxHeartbeats 3200000 in
theorem rcross_calls (u v p : P2) (w : World) (hu : Bd 100000 u) (hv : Bd 100000 v) (hp : Bd 100000 p) :
    Calls Tryz.prog 139 #[V22 u v, V p] w fun e w' => e = .returned (.bool (crX u v p)) ∧ Below w.heap.size w w' := by
  obtain ⟨ux, uy⟩ := u
  obtain ⟨vx, vy⟩ := v
  obtain ⟨px, py⟩ := p
  have u3 := hu.2.1; have u4 := hu.2.2
  have v3 := hv.2.1; have v4 := hv.2.2
  have p3 := hp.2.1; have p4 := hp.2.2
  simp only at u3 u4 v3 v4 p3 p4
  by_cases h : vy < uy
  · have hs : crX ⟨ux, uy⟩ ⟨vx, vy⟩ ⟨px, py⟩ = upX ⟨vx, vy⟩ ⟨ux, uy⟩ ⟨px, py⟩ := by unfold crX; rw [if_pos h]
    rw [hs]
    have HL := fun w => left_calls ⟨vx, vy⟩ ⟨ux, uy⟩ ⟨px, py⟩ w hv hu hp
    have hcr : crs ⟨vx, vy⟩ ⟨ux, uy⟩ ⟨px, py⟩ = tw (sub ⟨ux, uy⟩ ⟨vx, vy⟩) (sub ⟨px, py⟩ ⟨vx, vy⟩) := rfl
    have hcb := crs_bd hv hu hp
    clear hu hv hp hs
    by_cases hA : py < vy
    · rw [show upX ⟨vx, vy⟩ ⟨ux, uy⟩ ⟨px, py⟩ = false from upX_lo hA]
      clear HL hcr hcb
      go_enter Tryz.func139, Tryz.ntmps139
      go_wp2_with fail
      go_region
      all_goals (go_wp2_with fail; go_ret; refine ⟨rfl, ?_⟩)
      all_goals repeat' (first | exact Below.refl _ _ | (refine b_al ?_ (by first | (simp; done) | (simp; omega))) | apply b_dr | (refine b_set ?_ (by omega)) | omega)
    · by_cases hB : uy ≤ py
      · rw [show upX ⟨vx, vy⟩ ⟨ux, uy⟩ ⟨px, py⟩ = false from upX_hi hB]
        clear HL hcr hcb
        go_enter Tryz.func139, Tryz.ntmps139
        go_wp2_with fail
        go_region
        all_goals (go_wp2_with fail; go_ret; refine ⟨rfl, ?_⟩)
        all_goals repeat' (first | exact Below.refl _ _ | (refine b_al ?_ (by first | (simp; done) | (simp; omega))) | apply b_dr | (refine b_set ?_ (by omega)) | omega)
      · rw [show upX ⟨vx, vy⟩ ⟨ux, uy⟩ ⟨px, py⟩ = decide (0 < tw (sub ⟨ux, uy⟩ ⟨vx, vy⟩) (sub ⟨px, py⟩ ⟨vx, vy⟩)) from upX_in hA hB]
        rw [← hcr]
        clear hcr
        generalize crs ⟨vx, vy⟩ ⟨ux, uy⟩ ⟨px, py⟩ = o at HL hcb ⊢
        obtain ⟨hcb1, hcb2⟩ := hcb
        go_enter Tryz.func139, Tryz.ntmps139
        go_wp2_with fail
        go_region
        all_goals (go_wp2_with fail; refine (HL _).mono ?_; rintro e w1 ⟨rfl, hb1⟩; go_wp2_with fail; go_ret; refine ⟨rfl, below_trans ?_ hb1⟩; clear hb1 HL)
        all_goals repeat' (first | exact Below.refl _ _ | (refine b_al ?_ (by first | (simp; done) | (simp; omega))) | apply b_dr | (refine b_set ?_ (by omega)) | omega)
  · have hs : crX ⟨ux, uy⟩ ⟨vx, vy⟩ ⟨px, py⟩ = upX ⟨ux, uy⟩ ⟨vx, vy⟩ ⟨px, py⟩ := by unfold crX; rw [if_neg h]
    rw [hs]
    have HL := fun w => left_calls ⟨ux, uy⟩ ⟨vx, vy⟩ ⟨px, py⟩ w hu hv hp
    have hcr : crs ⟨ux, uy⟩ ⟨vx, vy⟩ ⟨px, py⟩ = tw (sub ⟨vx, vy⟩ ⟨ux, uy⟩) (sub ⟨px, py⟩ ⟨ux, uy⟩) := rfl
    have hcb := crs_bd hu hv hp
    clear hu hv hp hs
    by_cases hA : py < uy
    · rw [show upX ⟨ux, uy⟩ ⟨vx, vy⟩ ⟨px, py⟩ = false from upX_lo hA]
      clear HL hcr hcb
      go_enter Tryz.func139, Tryz.ntmps139
      go_wp2_with fail
      go_region
      all_goals (go_wp2_with fail; go_ret; refine ⟨rfl, ?_⟩)
      all_goals repeat' (first | exact Below.refl _ _ | (refine b_al ?_ (by first | (simp; done) | (simp; omega))) | apply b_dr | (refine b_set ?_ (by omega)) | omega)
    · by_cases hB : vy ≤ py
      · rw [show upX ⟨ux, uy⟩ ⟨vx, vy⟩ ⟨px, py⟩ = false from upX_hi hB]
        clear HL hcr hcb
        go_enter Tryz.func139, Tryz.ntmps139
        go_wp2_with fail
        go_region
        all_goals (go_wp2_with fail; go_ret; refine ⟨rfl, ?_⟩)
        all_goals repeat' (first | exact Below.refl _ _ | (refine b_al ?_ (by first | (simp; done) | (simp; omega))) | apply b_dr | (refine b_set ?_ (by omega)) | omega)
      · rw [show upX ⟨ux, uy⟩ ⟨vx, vy⟩ ⟨px, py⟩ = decide (0 < tw (sub ⟨vx, vy⟩ ⟨ux, uy⟩) (sub ⟨px, py⟩ ⟨ux, uy⟩)) from upX_in hA hB]
        rw [← hcr]
        clear hcr
        generalize crs ⟨ux, uy⟩ ⟨vx, vy⟩ ⟨px, py⟩ = o at HL hcb ⊢
        obtain ⟨hcb1, hcb2⟩ := hcb
        go_enter Tryz.func139, Tryz.ntmps139
        go_wp2_with fail
        go_region
        all_goals (go_wp2_with fail; refine (HL _).mono ?_; rintro e w1 ⟨rfl, hb1⟩; go_wp2_with fail; go_ret; refine ⟨rfl, below_trans ?_ hb1⟩; clear hb1 HL)
        all_goals repeat' (first | exact Below.refl _ _ | (refine b_al ?_ (by first | (simp; done) | (simp; omega))) | apply b_dr | (refine b_set ?_ (by omega)) | omega)

end Go.Proofs.YtgdlfjofefhdoaaGreatDoor
