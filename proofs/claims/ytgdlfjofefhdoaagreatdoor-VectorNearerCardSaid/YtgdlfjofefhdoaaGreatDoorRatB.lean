/- Package ratio: Make, Whole; vector.squared. -/
import Derived.Test.YtgdlfjofefhdoaaGreatDoorRatA
namespace Go.Proofs.YtgdlfjofefhdoaaGreatDoor
open Go.RowKit Go.Sort Go.Lib Mb

theorem itoa_le {n : Int} {k : Nat} (hk : 1 ≤ k) (h0 : 0 ≤ n) (h : n < (10 ^ k : Nat)) : (itoa n).length ≤ k := by
  rw [Mb.itoa_nonneg h0]
  exact (decDigits_len_le hk).2 (by omega)

theorem rg_of_pos {n d : Int} (hd : 0 < d) : rg n d = Int.gcd n d := by unfold rg; rw [if_neg (by omega)]

theorem rn_le {n d : Int} (hn : 0 ≤ n) (hd : 0 < d) : 0 ≤ rn n d ∧ rn n d ≤ n := by
  unfold rn; rw [rg_of_pos hd]
  exact ⟨Int.ediv_nonneg hn (by omega), Int.ediv_le_self _ hn⟩

theorem rd_le {n d : Int} (hd : 0 < d) : 0 < rd n d ∧ rd n d ≤ d := by
  refine ⟨rd_pos (by omega), ?_⟩
  unfold rd; rw [rg_of_pos hd]
  exact Int.ediv_le_self _ (by omega)

theorem gcd_le {n d : Int} (hd : 0 < d) : 0 < (Int.gcd n d : Int) ∧ (Int.gcd n d : Int) ≤ d :=
  ⟨gcd_pos' (by omega), Int.le_of_dvd hd (Int.gcd_dvd_right ..)⟩

theorem lowOps_short (n d : Int) (hn : 0 ≤ n) (hn9 : n < 1000000000) (hd : 0 < d) (hd9 : d < 1000000000) : LowOps n d := by
  have l1 := itoa_le (n := n) (k := 9) (by omega) hn (by omega)
  have l2 := itoa_le (n := d) (k := 9) (by omega) (by omega) (by omega)
  have g := gcd_le (n := n) hd
  have l3 := itoa_le (n := (Int.gcd n d : Int)) (k := 9) (by omega) (by omega) (by omega)
  have r1 := rn_le hn hd
  have r2 := rd_le (n := n) hd
  have e1 : rn n d = n / (Int.gcd n d : Int) := by unfold rn; rw [rg_of_pos hd]
  have e2 : rd n d = d / (Int.gcd n d : Int) := by unfold rd; rw [rg_of_pos hd]
  exact ⟨hd, fun w hg => gcd_short n d w hg l1 l2 hd,
    fun w hg => by rw [e1]; exact quo_short n _ w hg l1 l3 hn g.1,
    fun w hg => by rw [e2]; exact quo_short d _ w hg l2 l3 (by omega) g.1,
    Nat.le_trans (itoa_le (k := 9) (by omega) r1.1 (by omega)) (by omega),
    Nat.le_trans (itoa_le (k := 9) (by omega) (by omega) (by omega)) (by omega)⟩

set_option maxHeartbeats 800000 in
theorem make_calls (n d : Int) (w : World) (hg : Good w) (ho : LowOps n d) (hn : (dg n).length ≤ 1024) (hd : (dg d).length ≤ 1024) :
    Calls Tryz.prog 107 #[S n, S d] w fun e w' => e = .returned (.tuple #[R (rn n d) (rd n d), .int .i64 0]) ∧ Below w.heap.size w w' := by
  have hz := itoa_zero (n := d) (by have := ho.pos; omega)
  have hT := txts2 w n d 95
  go_enter Tryz.func107, Tryz.ntmps107
  go_wp2_with fail
  go_loopg [15] 2 (fun g i wr => ∃ k : Nat, k + g = 2 ∧ i = .int .i64 k ∧ Below w.heap.size w wr ∧ Txts wr w.heap.size [n, d])
  case atStart => exact ⟨0, rfl, rfl, alloc_below _ _, hT⟩
  case round =>
    obtain ⟨k, hk, rfl, hbel, hT'⟩ := hrel
    have hc := hT'.2
    have hb := hT'.1
    match k, hk with
    | 0, hk =>
      have c0 : wr.cell? ⟨w.heap.size, 0, none⟩ = some (S n) := hc 0 (by simp)
      clear hc
      go_wp2_with fail
      refine (check_calls n _ hn).mono ?_
      rintro e w1 ⟨rfl, hb1⟩
      go_wp2_with fail
      go_roundg 1
      case measure => omega
      case rel => exact ⟨1, rfl, rfl, below_trans hbel hb1, Nat.lt_of_lt_of_le hb hb1.size, fun i hi => (hb1.cell (p := ⟨w.heap.size, i, none⟩) hb).trans (hT'.2 i hi)⟩
    | 1, hk =>
      have c0 : wr.cell? ⟨w.heap.size, 1, none⟩ = some (S d) := hc 1 (by simp)
      clear hc
      go_wp2_with fail
      refine (check_calls d _ hd).mono ?_
      rintro e w1 ⟨rfl, hb1⟩
      go_wp2_with fail
      go_roundg 0
      case measure => omega
      case rel => exact ⟨2, rfl, rfl, below_trans hbel hb1, Nat.lt_of_lt_of_le hb hb1.size, fun i hi => (hb1.cell (p := ⟨w.heap.size, i, none⟩) hb).trans (hT'.2 i hi)⟩
    | 2, hk =>
      clear hc
      go_wp2_with fail
      refine (lowest_calls _ n d _ ((hg.to hbel).alloc _) (sums_new _) ho).mono ?_
      rintro e w1 ⟨rfl, hb1⟩
      have c1 := ((sums_new wr).to hb1).c
      go_wp2_with fail
      go_ret2
      exact ⟨rfl, below_trans (below_trans hbel (alloc_below _ _)) hb1⟩
    | k + 3, hk => omega

theorem whole_calls (n : Int) (w : World) (hg : Good w) (h0 : -9223372036854775808 ≤ n) (h1 : n ≤ 9223372036854775807) :
    Calls Tryz.prog 60 #[.int .i64 n] w fun e w' => e = .returned (S n) ∧ Below w.heap.size w w' := by
  go_enter Tryz.func60, Tryz.ntmps60
  go_wp2_with (go_at_call 56; refine (of_calls _ _ hg h0 h1).mono ?_; rintro e w' ⟨rfl, hb⟩)
  go_ret
  exact ⟨rfl, hb⟩

end Go.Proofs.YtgdlfjofefhdoaaGreatDoor
