/- Package ratio: checks, sums.mul, Mul, Add, Compare. -/
import Derived.Test.YtgdlfjofefhdoaaGreatDoorRatC
namespace Go.Proofs.YtgdlfjofefhdoaaGreatDoor
open Go.RowKit Go.Sort Go.Lib Mb

theorem dg_gcd_k {n d : Int} (k : Nat) (hk : 1 ≤ k) (hd : 0 < d) (h : (dg d).length ≤ k) : (dg (Int.gcd n d : Int)).length ≤ k := by
  have h1 : d.natAbs < 10 ^ k := (decDigits_len_le hk).1 h
  have h2 := (gcd_le (n := n) hd).2
  exact (decDigits_len_le hk).2 (Nat.lt_of_le_of_lt (by omega) h1)
theorem dg_gcd {n d : Int} (hd : 0 < d) (h : (dg d).length ≤ 1024) : (dg (Int.gcd n d : Int)).length ≤ 1024 := dg_gcd_k 1024 (by decide) hd h

/-- lowest of integers of any size -/
theorem lowOps_any {n d : Int} (hd : 0 < d) (ln : (dg n).length ≤ 1024) (ld : (dg d).length ≤ 1024) : LowOps n d := by
  have e1 : rn n d = n / (Int.gcd n d : Int) := by unfold rn; rw [rg_of_pos hd]
  have e2 : rd n d = d / (Int.gcd n d : Int) := by unfold rd; rw [rg_of_pos hd]
  have g := gcd_le (n := n) hd
  have lg := dg_gcd (n := n) hd ld
  have d1 : (Int.gcd n d : Int) ∣ n := Int.gcd_dvd_left ..
  have d2 : (Int.gcd n d : Int) ∣ d := Int.gcd_dvd_right ..
  have l1 := dg_quo ln g.1 d1
  have l2 := dg_quo ld g.1 d2
  exact ⟨hd, fun w hg => gcds_calls n d w hg ln ld,
    fun w hg => by rw [e1]; exact quos_calls n _ w hg ln lg g.1 d1,
    fun w hg => by rw [e2]; exact quos_calls d _ w hg ld lg g.1 d2,
    by rw [e1]; have := itoa_le_dg (n / (Int.gcd n d : Int)); omega,
    by rw [e2]; have := itoa_le_dg (d / (Int.gcd n d : Int)); omega⟩

/-- what lowest gives is right -/
theorem low_rat {n d : Int} (hd : 0 < d) (ln : (dg n).length ≤ 1024) (ld : (dg d).length ≤ 1024) : Rat2 (rn n d) (rd n d) := by
  have e1 : rn n d = n / (Int.gcd n d : Int) := by unfold rn; rw [rg_of_pos hd]
  have e2 : rd n d = d / (Int.gcd n d : Int) := by unfold rd; rw [rg_of_pos hd]
  have g := gcd_le (n := n) hd
  exact ⟨rd_pos (by omega), r_coprime (by omega), by rw [e1]; exact dg_quo ln g.1 (Int.gcd_dvd_left ..), by rw [e2]; exact dg_quo ld g.1 (Int.gcd_dvd_right ..)⟩

/-- two cells that hold numbers as texts -/
theorem checks_calls (b cap : Nat) (p q m n : Int) (w : World) (hg : Good w) (hr : Rat2 p q) (hs : Rat2 m n) (hb : b < w.heap.size) (c0 : w.cell? ⟨b, 0, none⟩ = some (R p q)) (c1 : w.cell? ⟨b, 1, none⟩ = some (R m n)) :
    Calls Tryz.prog 79 #[.slice (some ⟨b, 0, none⟩) 2 cap] w fun e w' => e = .returned (.int .i64 0) ∧ Below w.heap.size w w' := by
  have H := Lib.hid (And.intro hg (And.intro hr (And.intro hs (And.intro c0 c1)))); clear hg hr hs c0 c1
  go_enter Tryz.func79, Tryz.ntmps79
  go_wp2_with fail
  go_loopg [8] 2 (fun g i wr => ∃ k : Nat, k + g = 2 ∧ i = .int .i64 k ∧ Below w.heap.size w wr)
  case atStart => exact ⟨0, rfl, rfl, Below.refl _ _⟩
  case round =>
    obtain ⟨k, hk, rfl, hbel⟩ := hrel
    match k, hk with
    | 0, hk =>
      have c0 : wr.cell? ⟨b, 0, none⟩ = some (R p q) := (hbel.cell (p := ⟨b, 0, none⟩) hb).trans H.out.2.2.2.1
      have HC := rcheck_calls p q wr (H.out.1.to hbel) H.out.2.1
      have HB := Lib.hid hbel; clear hbel
      go_wp2_with fail
      refine HC.mono ?_
      rintro e w1 ⟨rfl, hb1⟩
      clear HC
      go_wp2_with fail
      go_roundg 1
      case measure => omega
      case rel => exact ⟨1, rfl, rfl, below_trans HB.out hb1⟩
    | 1, hk =>
      have c0 : wr.cell? ⟨b, 1, none⟩ = some (R m n) := (hbel.cell (p := ⟨b, 1, none⟩) hb).trans H.out.2.2.2.2
      have HC := rcheck_calls m n wr (H.out.1.to hbel) H.out.2.2.1
      have HB := Lib.hid hbel; clear hbel
      go_wp2_with fail
      refine HC.mono ?_
      rintro e w1 ⟨rfl, hb1⟩
      clear HC
      go_wp2_with fail
      go_roundg 0
      case measure => omega
      case rel => exact ⟨2, rfl, rfl, below_trans HB.out hb1⟩
    | 2, hk =>
      go_wp2_with fail
      go_ret
      exact ⟨rfl, hbel⟩
    | k + 3, hk => omega

set_option maxRecDepth 100000 in
set_option maxHeartbeats 800000 in
theorem smul_calls (s b cap : Nat) (x y : Int) (w : World) (hg : Good w) (hs : Sums w s) (hT : Txts w b [x, y]) (lx : (dg x).length ≤ 1024) (ly : (dg y).length ≤ 1024) (lxy : (dg (x * y)).length ≤ 1024) :
    Calls Tryz.prog 81 #[.pointer (some ⟨s, 0, none⟩), .slice (some ⟨b, 0, none⟩) 2 cap] w fun e w' => e = .returned (S (x * y)) ∧ Below w.heap.size w w' := by
  have t0 := hT.2 0 (by simp)
  have t1 := hT.2 1 (by simp)
  simp only [List.getElem_cons_zero, List.getElem_cons_succ] at t0 t1
  have H := Lib.hid (And.intro hg (And.intro hs (And.intro t0 t1))); clear hg hs t0 t1 hT
  have hone : (dg 1).length ≤ 1024 := dg_one
  have hS : S 1 = .string ⟨#[49]⟩ := by show Value.string ⟨(itoa 1).toArray⟩ = _; rw [itoa_one]
  have hm0 : ∀ w, Good w → Calls Tryz.prog 73 #[.string ⟨#[49]⟩, S x] w fun e w' => e = .returned (.tuple #[S x, .int .i64 0]) ∧ Below w.heap.size w w' := fun w hg => by
    have := muls_calls 1 x w hg hone lx (by rw [Int.one_mul]; exact lx)
    rwa [Int.one_mul, hS] at this
  have hm1 : ∀ w, Good w → Calls Tryz.prog 73 #[S x, S y] w fun e w' => e = .returned (.tuple #[S (x * y), .int .i64 0]) ∧ Below w.heap.size w w' := fun w hg => muls_calls x y w hg lx ly lxy
  have HM := Lib.hid (And.intro hm0 hm1); clear hm0 hm1 hS hone
  go_enter Tryz.func81, Tryz.ntmps81
  go_wp2_with fail
  go_loopg [5, 13] 2 (fun g o i wr => ∃ k : Nat, k + g = 2 ∧ i = .int .i64 k ∧ o = (if k = 0 then .string ⟨#[49]⟩ else if k = 1 then S x else S (x * y)) ∧ Below w.heap.size w wr)
  case atStart => exact ⟨0, rfl, rfl, rfl, Below.refl _ _⟩
  case round =>
    obtain ⟨k, hk, rfl, rfl, hbel⟩ := hrel
    match k, hk with
    | 0, hk =>
      have c0 := cellT H.out.2.2.1 hbel
      have HC := do_calls s 73 (.string ⟨#[49]⟩) (S x) (S x) wr (H.out.2.1.to hbel) (enters_of Tryz.func73 (by kernel_rfl) rfl) (fun w' hb => HM.out.1 w' ((H.out.1.to hbel).to hb))
      have HB := Lib.hid hbel; clear hbel
      go_wp2_with fail
      refine HC.mono ?_
      rintro e w1 ⟨rfl, hb1⟩
      clear HC
      go_wp2_with fail
      go_roundg 1
      case measure => omega
      case rel => exact ⟨1, rfl, rfl, rfl, below_trans HB.out hb1⟩
    | 1, hk =>
      have c0 := cellT H.out.2.2.2 hbel
      have HC := do_calls s 73 (S x) (S y) (S (x * y)) wr (H.out.2.1.to hbel) (enters_of Tryz.func73 (by kernel_rfl) rfl) (fun w' hb => HM.out.2 w' ((H.out.1.to hbel).to hb))
      have HB := Lib.hid hbel; clear hbel
      go_wp2_with fail
      refine HC.mono ?_
      rintro e w1 ⟨rfl, hb1⟩
      clear HC
      go_wp2_with fail
      go_roundg 0
      case measure => omega
      case rel => exact ⟨2, rfl, rfl, rfl, below_trans HB.out hb1⟩
    | 2, hk =>
      go_wp2_with fail
      go_ret
      exact ⟨rfl, hbel⟩
    | k + 3, hk => omega

end Go.Proofs.YtgdlfjofefhdoaaGreatDoor
