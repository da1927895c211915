/- The reference's Twice: the area of a polygon as the sum over its sides. -/
import Derived.Test.YtbemnlmgemafkaaGreatDoorStrW
namespace Go.Proofs.YtbemnlmgemafkaaGreatDoor
open Go.RowKit Go.Sort Go.Lib Mb

/-- the area, up to its i-th side -/
def arTo (l : List P2) (i : Nat) : Int := sumN (fun j => tw (g2 l j) (g2 l ((j + 1) % l.length))) i
abbrev areaOf (l : List P2) : Int := arTo l l.length

theorem tw_bd {a b : P2} (ha : Bd 100000 a) (hb : Bd 100000 b) : -20000000000 ≤ tw a b ∧ tw a b ≤ 20000000000 := by
  have h1 := Mb.mul_bd ha.1 hb.2
  have h2 := Mb.mul_bd ha.2 hb.1
  unfold tw
  omega

theorem arTo_bd {l : List P2} (h : errOf l = 0) {i : Nat} (hi : i ≤ l.length) (hn : l.length ≤ 64) : -2000000000000 ≤ arTo l i ∧ arTo l i ≤ 2000000000000 := by
  have hb := sumN_bd (f := fun j => tw (g2 l j) (g2 l ((j + 1) % l.length))) (M := 20000000000) (k := i) (fun j hj => tw_bd (g2_bd h (by omega)) (g2_bd h (Nat.mod_lt _ (by omega))))
  unfold arTo
  omega

set_option maxHeartbeats 1600000 in
theorem twice_calls (l : List P2) (a : Option Addr) (cap : Nat) (w : World) (hT : Sl2 w a l) (hn : l.length ≤ 64) (he : errOf l = 0) :
    Calls Tryz.prog 80 #[.slice a l.length cap] w fun e w' => e = .returned (.int .i64 (areaOf l)) ∧ Below w.heap.size w w' := by
  have HT := Lib.hid hT; clear hT
  have HE := Lib.hid he; clear he
  go_enter Tryz.func80, Tryz.ntmps80
  go_wp2
  go_loopg [3, 4] l.length (fun g s v wr => ∃ i : Nat, i + g = l.length ∧ s = .int .i64 (arTo l i) ∧ v = .int .i64 i ∧ Below w.heap.size w wr)
  case atStart => exact ⟨0, Nat.zero_add _, rfl, rfl, Below.refl _ _⟩
  case round =>
    obtain ⟨i, hi, rfl, rfl, hbel⟩ := hrel
    have H1 := Lib.hid hbel; clear hbel
    by_cases hlt : i < l.length
    · have hT4 := HT.out.to H1.out
      obtain ⟨k, hk⟩ : ∃ k, (i + 1) % l.length = k := ⟨_, rfl⟩
      have hkl : k < l.length := hk ▸ Nat.mod_lt _ (by omega)
      obtain ⟨b, o, rfl, -, c1, c2⟩ := g2_cells hT4 hlt
      obtain ⟨b', o', e', -, c4, c5⟩ := g2_cells hT4 hkl
      cases e'
      have q : ∀ d os, Calls Tryz.prog 122 #[V (g2 l i), V (g2 l k)] (grow (redrawn wr d) os) fun e w'' => e = .returned (.int .i64 (tw (g2 l i) (g2 l k))) ∧ ∃ p : Regrown, w'' = grow (redrawn wr p.d) p.os := fun d os => Calls.regrown_of (rturn_calls _ _ _ ((g2_bd HE.out hlt).mono (by omega)) ((g2_bd HE.out hkl).mono (by omega)))
      have k1 := cell_regrown c1
      have k2 := cell_regrown c2
      have k4 := cell_regrown c4
      have k5 := cell_regrown c5
      clear c1 c2 c4 c5 hT4
      have i1 : ((i : Int) < l.length) := by omega
      have i2 : ((k : Int) < l.length) := by omega
      have n0 : (l.length : Int) ≠ 0 := by omega
      have n1 : l ≠ [] := by intro e; rw [e] at hlt; exact Nat.not_lt_zero _ hlt
      have hr : ((i : Int) + 1).tmod (l.length : Int) = (k : Int) := by
        rw [← hk, show (i : Int) + 1 = ((i + 1 : Nat) : Int) by omega, Int.tmod_eq_emod_of_nonneg (by omega)]; rfl
      have hs1 := arTo_bd HE.out (i := i) (by omega) hn
      have hs2 := arTo_bd HE.out (i := i + 1) (by omega) hn
      have hs3 : arTo l (i + 1) = arTo l i + tw (g2 l i) (g2 l k) := by rw [← hk]; rfl
      rw [hs3] at hs2
      obtain ⟨s, hs⟩ : ∃ s, arTo l i = s := ⟨_, rfl⟩
      obtain ⟨t, ht⟩ : ∃ t, tw (g2 l i) (g2 l k) = t := ⟨_, rfl⟩
      rw [hs] at hs1 hs2 hs3 ⊢
      rw [ht] at hs2 hs3 q
      have HS := Lib.hid hs3; clear hs3 hs ht
      obtain ⟨s1, s2⟩ := hs1
      obtain ⟨s3, s4⟩ := hs2
      clear hk
      have w1 : IntKind.i64.wrap ((i : Int) + 1) = (i : Int) + 1 := IntWalk.i64_in _ (by omega)
      have w2 : IntKind.i64.wrap (s + t) = s + t := IntWalk.i64_in _ (by omega)
      go_wp2_with fail
      refine wp_region_quiet_below follows (by kernel_rfl) ?_
      repeat (quiet_step (first | with_reducible exact q _ _))
      refine wpQuiet_nil ?_
      intro _ hw'
      obtain ⟨⟨dq, osq⟩, hw''⟩ := hw'
      subst hw''
      go_wp2_with fail
      go_roundg (l.length - i - 1)
      case measure => omega
      case rel => exact ⟨i + 1, by omega, by rw [HS.out], by go_num, below_trans H1.out (below_regrown wr dq osq)⟩
    · have hil : i = l.length := by omega
      subst hil
      go_wp2
      go_ret
      exact ⟨rfl, H1.out⟩

end Go.Proofs.YtbemnlmgemafkaaGreatDoor
