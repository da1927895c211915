/- The plain law of ProfileParts. -/
import Derived.Test.YtgdlfjofefhdoaaGreatDoorSegF
namespace Go.Proofs.YtgdlfjofefhdoaaGreatDoor
open Go.RowKit Go.Sort Go.Lib Go.Shelf Mb

theorem isZ_n {n d : Int} {j : Nat} (h : isZ (some (n, d, j)) = true) : n = 0 := by
  have h1 : rtxt n d = [48] := by simpa [isZ] using h
  have h2 : rtxt 0 1 = [48] := by
    unfold rtxt
    rw [if_pos rfl, show (0 : Int) = ((0 : Nat) : Int) from rfl, Mb.itoa_nonneg (by omega)]
    simp [decDigits]
  exact (rtxt_inj (h1.trans h2.symm)).1
theorem farB_0 {t d : Int} (hd : 0 < d) : farB t 1 0 d = false := by
  unfold farB
  apply decide_eq_false
  have h : 0 ≤ t * t := by
    rcases Int.le_total 0 t with h | h
    · exact Int.mul_nonneg h h
    · have := Int.mul_nonneg (a := -t) (b := -t) (by omega) (by omega)
      rwa [Int.neg_mul_neg] at this
  have := Int.mul_nonneg h (Int.le_of_lt hd)
  omega
theorem farB_2 (t n d : Int) : farB (2 * t) 2 n d = farB t 1 n d := by
  unfold farB
  apply decide_eq_decide.2
  rw [show 2 * t * (2 * t) * d = 4 * (t * t * d) by grind]
  omega
theorem farB_mono {t u n d : Int} (h0 : 0 ≤ t) (h1 : t ≤ u) (hd : 0 < d) (h : farB u 1 n d = true) : farB t 1 n d = true := by
  unfold farB at *
  rw [decide_eq_true_eq] at *
  have h2 : t * t ≤ u * u := Int.mul_le_mul h1 h1 h0 (by omega)
  have h3 : t * t * d ≤ u * u * d := Int.mul_le_mul_of_nonneg_right h2 (Int.le_of_lt hd)
  omega

theorem locV_z {l : List P2} {p : P2} (h : isZ (nrst l true p) = true) : locV l p = 0 := by unfold locV; rw [if_pos h]
theorem locV_nz {l : List P2} {p : P2} (he : errOf l = 0) (h : isZ (nrst l true p) = false) : locV l p = 1 ∨ locV l p = -1 := by
  unfold locV
  rw [if_neg (by simp [h]), dif_pos he]
  exact lfold_bd p _

/-- the unequal points with one tolerance are those outside of twice of it -/
theorem un_out {l pts : List P2} {t : Int} (he : pErr l true = 0) (hpe : errOf pts = 0) (k : Nat) : unB l pts t t k = btO l true pts (2 * t) 2 k := by
  have hp := g2_flat hpe k
  obtain ⟨⟨n, d, j⟩, hb⟩ := nrst_some (p := g2 pts k) he
  have hok := nrst_ok (l := l) (c := true) hp
  rw [unB_eq]
  unfold btO
  rw [btB_eq (by omega)]
  rw [hb] at hok ⊢
  show _ = farB (2 * t) 2 n d
  rw [farB_2]
  show (if 0 < locV l (g2 pts k) then farB t 1 n d else if locV l (g2 pts k) < 0 then farB t 1 n d else false) = _
  cases hz : isZ (some (n, d, j)) with
  | true =>
    rw [locV_z (by rw [hb]; exact hz), if_neg (by omega), if_neg (by omega), isZ_n hz]
    exact (farB_0 hok.1.r.pos).symm
  | false =>
    rcases locV_nz (pErr_ok he).2.1 (p := g2 pts k) (by rw [hb]; exact hz) with h | h
    · rw [h, if_pos (by omega)]
    · rw [h, if_neg (by omega), if_pos (by omega)]

theorem un_mono {l pts : List P2} {t : Int} (h0 : 0 ≤ t) (h1 : t ≤ 100000) (he : pErr l true = 0) (hpe : errOf pts = 0) {k : Nat} (h : unB l pts t 100000 k = true) : unB l pts t t k = true := by
  have hp := g2_flat hpe k
  obtain ⟨⟨n, d, j⟩, hb⟩ := nrst_some (p := g2 pts k) he
  have hok := nrst_ok (l := l) (c := true) hp
  rw [unB_eq] at h ⊢
  rw [hb] at hok h ⊢
  change (if 0 < locV l (g2 pts k) then farB t 1 n d else if locV l (g2 pts k) < 0 then farB 100000 1 n d else false) = true at h
  show (if 0 < locV l (g2 pts k) then farB t 1 n d else if locV l (g2 pts k) < 0 then farB t 1 n d else false) = true
  split at h
  · rename_i g; rw [if_pos g]; exact h
  · rename_i g
    rw [if_neg g]
    split at h
    · rename_i g2; rw [if_pos g2]; exact farB_mono h0 h1 hok.1.r.pos h
    · cases h

theorem un_loc {l pts : List P2} {x y : Int} {k : Nat} (h : unB l pts x y k = true) : locV l (g2 pts k) ≠ 0 := by
  intro e
  rw [unB_eq, e, if_neg (by omega), if_neg (by omega)] at h
  cases h
theorem un_in {l pts : List P2} {x y z : Int} {k : Nat} (h : unB l pts x y k = true) (hl : 0 < locV l (g2 pts k)) : unB l pts x z k = true := by
  rw [unB_eq, if_pos hl] at h ⊢; exact h

theorem mem_idxL {bt : Nat → Bool} {n k : Nat} : k ∈ idxL bt n ↔ k < n ∧ bt k = true := by simp [idxL]

/-- all that the law's walk asks of the three lists -/
theorem parts_law {l pts : List P2} {t : Int} (h0 : 0 ≤ t) (h1 : t ≤ 255) (he : pErr l true = 0) (hpe : errL pts = 0) :
    unE l pts t t = 0 ∧ outE l true pts (2 * t) = 0 ∧ unE l pts t 100000 = 0 ∧ unL l pts t t = outL l true pts (2 * t) ∧ (∀ k ∈ unL l pts t 100000, k < pts.length ∧ k ∈ unL l pts t t) ∧
      (∀ k ∈ unL l pts t t, k < pts.length ∧ nErr l true (g2 pts k) = 0 ∧ inV l (g2 pts k) ≠ 0 ∧ (0 < inV l (g2 pts k) → k ∈ unL l pts t 100000)) := by
  obtain ⟨hp64, hp0⟩ := errL_ok hpe
  have e1 : unE l pts t t = 0 := by unfold unE; rw [if_pos he, if_pos hpe, tolE_two, if_pos (by omega)]
  have e2 : outE l true pts (2 * t) = 0 := by unfold outE; rw [if_pos he, if_pos hpe, tolE_one, if_pos (by omega)]
  have e3 : unE l pts t 100000 = 0 := by unfold unE; rw [if_pos he, if_pos hpe, tolE_two, if_pos (by omega)]
  have l1 : unL l pts t t = idxL (unB l pts t t) pts.length := by unfold unL; rw [if_pos e1]
  have l2 : outL l true pts (2 * t) = idxL (btO l true pts (2 * t) 2) pts.length := by unfold outL; rw [if_pos e2]
  have l3 : unL l pts t 100000 = idxL (unB l pts t 100000) pts.length := by unfold unL; rw [if_pos e3]
  refine ⟨e1, e2, e3, ?_, ?_, ?_⟩
  · rw [l1, l2, show unB l pts t t = btO l true pts (2 * t) 2 from funext fun k => un_out he hp0 k]
  · intro k hk
    rw [l3, mem_idxL] at hk
    rw [l1, mem_idxL]
    exact ⟨hk.1, hk.1, un_mono h0 (by omega) he hp0 hk.2⟩
  · intro k hk
    rw [l1, mem_idxL] at hk
    have hn : nErr l true (g2 pts k) = 0 := by unfold nErr; rw [if_pos he, if_pos (g2_flat hp0 k)]
    have hi : inV l (g2 pts k) = locV l (g2 pts k) := by unfold inV; rw [if_pos hn]
    refine ⟨hk.1, hn, by rw [hi]; exact un_loc hk.2, fun h => ?_⟩
    rw [l3, mem_idxL]
    rw [hi] at h
    exact ⟨hk.1, un_in hk.2 h⟩

end Go.Proofs.YtgdlfjofefhdoaaGreatDoor
