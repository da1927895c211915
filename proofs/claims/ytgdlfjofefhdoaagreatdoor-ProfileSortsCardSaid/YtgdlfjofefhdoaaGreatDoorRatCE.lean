/- Package ratio: cut, Check, checks, mul; package whole: sign, order, Compare. Package ratio: checks, sums.mul, Mul, Add, Compare. Package ratio: Mul, Add, Compare. -/
import Derived.Test.YtgdlfjofefhdoaaGreatDoorSgnA
import Derived.Test.YtgdlfjofefhdoaaGreatDoorRatAB
import Derived.Test.YtgdlfjofefhdoaaGreatDoorDecA
import Derived.BigQuiet
namespace Go.Proofs.YtgdlfjofefhdoaaGreatDoor
open Go.RowKit Go.Sort Go.Lib Mb

theorem sign_calls (n : Int) (w : World) :
    Calls Tryz.prog 134 #[S n] w fun e w' => e = .returned (.int .i64 (sg n)) ∧ w = w' := by
  have hpos : 0 < (itoa n).length := by have := dg_le_itoa n; have h1 := dg_ne n; cases hx : dg n <;> simp_all; omega
  have hb0 := itoa_head n hpos
  by_cases h0 : n = 0
  · subst h0
    rw [S_zero']
    go_enter Tryz.func134, Tryz.ntmps134
    go_wp2_with fail
    go_ret
    exact ⟨rfl, rfl⟩
  · have hz := itoa_zero h0
    by_cases hn : n < 0
    · rw [show sg n = -1 by unfold sg; rw [if_neg h0, if_pos hn]]
      rw [decide_eq_true hn] at hb0
      go_enter Tryz.func134, Tryz.ntmps134
      go_wp2_with fail
      go_ret
      exact ⟨rfl, rfl⟩
    · rw [show sg n = 1 by unfold sg; rw [if_neg h0, if_neg hn]]
      rw [decide_eq_false hn] at hb0
      go_enter Tryz.func134, Tryz.ntmps134
      go_wp2_with fail
      go_ret
      exact ⟨rfl, rfl⟩

theorem order_calls' (l m : List UInt8) (w : World) :
    Calls Tryz.prog 135 #[.string ⟨l.toArray⟩, .string ⟨m.toArray⟩] w fun e w' => e = .returned (.int .i64 (ordL l m)) ∧ w = w' := by
  have s1 : (⟨l.toArray⟩ : ByteArray).size = l.length := rfl
  have s2 : (⟨m.toArray⟩ : ByteArray).size = m.length := rfl
  have HC := Tryz.strings_Compare ⟨l.toArray⟩ ⟨m.toArray⟩ w
  obtain ⟨s, hs⟩ : ∃ s : ByteArray, s = ⟨l.toArray⟩ := ⟨_, rfl⟩
  obtain ⟨t, ht⟩ : ∃ t : ByteArray, t = ⟨m.toArray⟩ := ⟨_, rfl⟩
  rw [← hs] at s1 HC ⊢
  rw [← ht] at s2 HC ⊢
  by_cases h : l.length = m.length
  · have hc : ((s.size : Int) == (t.size : Int)) = true := by rw [s1, s2, h]; simp
    have e : ordL l m = Lib.compareBytes s.data.toList t.data.toList := by
      unfold ordL; rw [if_neg (by omega), hs, ht]
    rw [e]
    clear e hs ht
    go_enter Tryz.func135, Tryz.ntmps135
    go_wp2_with fail
    refine HC.mono ?_
    rintro e w' ⟨rfl, rfl⟩
    clear HC
    go_wp2_with fail
    go_ret
    exact ⟨rfl, rfl⟩
  · have hc : ((s.size : Int) == (t.size : Int)) = false := by rw [s1, s2, beq_eq_false_iff_ne]; omega
    by_cases h2 : l.length < m.length
    · have hd : (s.size : Int) < (t.size : Int) := by rw [s1, s2]; omega
      have e : ordL l m = -1 := by unfold ordL; rw [if_pos h, if_pos h2]
      rw [e]
      clear HC hs ht
      go_enter Tryz.func135, Tryz.ntmps135
      go_wp2_with fail
      go_ret
      exact ⟨rfl, rfl⟩
    · have hd : ¬ (s.size : Int) < (t.size : Int) := by rw [s1, s2]; omega
      have e : ordL l m = 1 := by unfold ordL; rw [if_pos h, if_neg h2]
      rw [e]
      clear HC hs ht
      go_enter Tryz.func135, Tryz.ntmps135
      go_wp2_with fail
      go_ret
      exact ⟨rfl, rfl⟩

theorem dg_one : (dg 1).length ≤ 1024 := by
  have e : dg 1 = [49] := by show decDigits 1 = _; rw [decDigits]; rfl
  rw [e]; decide

theorem sg_bd (n : Int) : -1 ≤ sg n ∧ sg n ≤ 1 := by
  unfold sg
  repeat' split
  all_goals omega

theorem cmp3_bd (a b : Int) : -1 ≤ cmp3 a b ∧ cmp3 a b ≤ 1 := by
  unfold cmp3
  repeat' split
  all_goals omega

set_option maxRecDepth 100000 in
set_option maxHeartbeats 1600000 in
theorem wcompare_calls (a b : Int) (w : World) (ha : (dg a).length ≤ 1024) (hb : (dg b).length ≤ 1024) :
    Calls Tryz.prog 82 #[S a, S b] w fun e w' => e = .returned (.tuple #[.int .i64 (cmp3 a b), .int .i64 0]) ∧ Below w.heap.size w w' := by
  have hcs := cmp_signed a b
  have h1 := sg_bd a
  have h2 := sg_bd b
  have h3 := cmp3_bd (a.natAbs : Int) (b.natAbs : Int)
  have ho : ordL (dg a) (dg b) = cmp3 (a.natAbs : Int) (b.natAbs : Int) := ordL_dec _ _
  obtain ⟨u, hu⟩ : ∃ u, sg a = u := ⟨_, rfl⟩
  obtain ⟨v, hv⟩ : ∃ v, sg b = v := ⟨_, rfl⟩
  obtain ⟨c, hc⟩ : ∃ c, cmp3 (a.natAbs : Int) (b.natAbs : Int) = c := ⟨_, rfl⟩
  have HS := fun w => sign_calls a w
  have HT := fun w => sign_calls b w
  have HO := fun w => order_calls' (dg a) (dg b) w
  rw [hu, hv, hc] at hcs
  rw [hu] at h1
  simp only [hu] at HS
  rw [hv] at h2
  simp only [hv] at HT
  rw [hc] at h3
  simp only [ho, hc] at HO
  rw [← hcs]
  have hm : -1 ≤ u * c ∧ u * c ≤ 1 := by
    rcases (show u = -1 ∨ u = 0 ∨ u = 1 by omega) with rfl | rfl | rfl <;> omega
  obtain ⟨p, hp⟩ : ∃ p, u * c = p := ⟨_, rfl⟩
  have i1 : IntKind.i64.wrap (u * c) = p := by rw [hp]; exact IntWalk.i64_in _ (by omega)
  rw [hp]
  clear hu hv hc hcs ho hp hm h3
  go_enter Tryz.func82, Tryz.ntmps82
  go_wp2_with fail
  refine (all_calls [a, b] _ _ _ (txts2 w a b _) (by simp [ha, hb]) (by simp)).mono ?_
  rintro e w1 ⟨rfl, hb1⟩
  have H1 := Lib.hid (below_trans (alloc_below w _) hb1); clear hb1
  by_cases hlt : u < v
  · go_wp2_with (first | (with_reducible refine (HS _).mono ?_; rintro e w2 ⟨rfl, rfl⟩) | (with_reducible refine (HT _).mono ?_; rintro e w2 ⟨rfl, rfl⟩))
    go_ret2
    exact ⟨by first | rfl | (rw [if_pos hlt]; rfl), H1.out⟩
  · by_cases hgt : v < u
    · go_wp2_with (first | (with_reducible refine (HS _).mono ?_; rintro e w2 ⟨rfl, rfl⟩) | (with_reducible refine (HT _).mono ?_; rintro e w2 ⟨rfl, rfl⟩))
      go_ret2
      exact ⟨by first | rfl | (rw [if_neg (Int.not_lt.2 hlt), if_pos hgt]; rfl), H1.out⟩
    · go_wp2_with (first | (with_reducible refine (HS _).mono ?_; rintro e w2 ⟨rfl, rfl⟩) | (with_reducible refine (HT _).mono ?_; rintro e w2 ⟨rfl, rfl⟩) | (with_reducible refine (trimPrefix_calls _ _).mono ?_; rintro e w2 ⟨rfl, rfl⟩) | (with_reducible refine (HO _).mono ?_; rintro e w2 ⟨rfl, rfl⟩))
      go_ret2
      exact ⟨by first | rfl | (rw [if_neg (Int.not_lt.2 hlt), if_neg (Int.not_lt.2 hgt)]; rfl), H1.out⟩

/-- a number in lowest terms, its texts not too long -/
structure Rat2 (p q : Int) : Prop where
  pos : 0 < q
  co : Int.gcd p q = 1
  lp : (dg p).length ≤ 1024
  lq : (dg q).length ≤ 1024

theorem itoa_le_dg (n : Int) : (itoa n).length ≤ (dg n).length + 1 := by
  by_cases h : n < 0
  · rw [Mb.itoa_neg h]; simp [dg]
  · rw [Mb.itoa_nonneg (by omega)]; simp [dg]

set_option maxRecDepth 100000 in
theorem rcut_calls (p q : Int) (w : World) (hg : Good w) (hr : Rat2 p q) :
    Calls Tryz.prog 80 #[R p q] w fun e w' => e = .returned (.tuple #[S p, S q, .bool (decide (q ≠ 1))]) ∧ Below w.heap.size w w' := by
  obtain ⟨m, hm⟩ := hg.mlen
  have l1 := itoa_le_dg p
  have l2 := itoa_le_dg q
  have l3 := hr.lp
  have l4 := hr.lq
  by_cases h : q = 1
  · subst h
    have e1 : rtxt p 1 = itoa p := if_pos rfl
    have hc := Tryz.strings_Cut ⟨(rtxt p 1).toArray⟩ ⟨#[47]⟩ m w (by show (rtxt p 1).length < _; rw [e1]; omega) hm
    rw [show Lib.cut (⟨(rtxt p 1).toArray⟩ : ByteArray).data.toList (⟨#[47]⟩ : ByteArray).data.toList = (itoa p, [], false) by
      show Lib.cut (rtxt p 1) [47] = _
      rw [e1]; exact cut_none (no_slash p)] at hc
    have hS : S 1 = .string ⟨#[49]⟩ := by show Value.string ⟨(itoa 1).toArray⟩ = _; rw [itoa_one]
    rw [hS]
    clear e1 hS hr l1 l2 l3 l4
    go_enter Tryz.func80, Tryz.ntmps80
    go_wp2_with fail
    refine hc.mono ?_
    rintro e w1 ⟨rfl, n, rfl⟩
    clear hc
    go_wp2_with fail
    go_ret3
    exact ⟨rfl, bel_dn _ _⟩
  · have e1 : rtxt p q = itoa p ++ 47 :: itoa q := if_neg h
    have hc := Tryz.strings_Cut ⟨(rtxt p q).toArray⟩ ⟨#[47]⟩ m w (by show (rtxt p q).length < _; rw [e1]; simp; omega) hm
    rw [show Lib.cut (⟨(rtxt p q).toArray⟩ : ByteArray).data.toList (⟨#[47]⟩ : ByteArray).data.toList = (itoa p, itoa q, true) by
      show Lib.cut (rtxt p q) [47] = _
      rw [e1]; exact cut_some _ (no_slash p)] at hc
    rw [decide_eq_true h]
    clear e1 hr l1 l2 l3 l4
    go_enter Tryz.func80, Tryz.ntmps80
    go_wp2_with fail
    refine hc.mono ?_
    rintro e w1 ⟨rfl, n, rfl⟩
    clear hc
    go_wp2_with fail
    go_ret3
    exact ⟨rfl, bel_dn _ _⟩

set_option maxRecDepth 100000 in
set_option maxHeartbeats 1600000 in
theorem rcheck_calls (p q : Int) (w : World) (hg : Good w) (hr : Rat2 p q) :
    Calls Tryz.prog 131 #[R p q] w fun e w' => e = .returned (.int .i64 0) ∧ Below w.heap.size w w' := by
  have hC := rcut_calls p q w hg hr
  have H := Lib.hid (And.intro hg hr); clear hg hr
  by_cases h : q = 1
  · subst h
    rw [show decide ((1 : Int) ≠ 1) = false by simp] at hC
    go_enter Tryz.func131, Tryz.ntmps131
    go_wp2_with fail
    refine hC.mono ?_
    rintro e w1 ⟨rfl, hb1⟩
    clear hC
    go_wp2_with fail
    refine (check_calls p _ H.out.2.lp).mono ?_
    rintro e w2 ⟨rfl, hb2⟩
    go_wp2_with fail
    refine (check_calls 1 _ H.out.2.lq).mono ?_
    rintro e w3 ⟨rfl, hb3⟩
    go_wp2_with fail
    go_ret
    exact ⟨rfl, below_trans (below_trans hb1 hb2) hb3⟩
  · rw [show decide (q ≠ 1) = true by simp [h]] at hC
    have hS : S 1 = .string ⟨#[49]⟩ := by show Value.string ⟨(itoa 1).toArray⟩ = _; rw [itoa_one]
    have hone := H.out.2.pos
    have hcm : cmp3 q 1 = 1 := by unfold cmp3; rw [if_neg (by omega), if_pos (by omega)]
    have HW := fun w => wcompare_calls q 1 w H.out.2.lq dg_one
    simp only [hcm, hS] at HW
    have HG := fun w (hg : Good w) => gcds_calls p q w hg H.out.2.lp H.out.2.lq
    simp only [H.out.2.co] at HG
    have hS' : S ((1 : Nat) : Int) = .string ⟨#[49]⟩ := hS
    simp only [hS'] at HG
    clear hS hS' hone hcm h
    go_enter Tryz.func131, Tryz.ntmps131
    go_wp2_with fail
    refine hC.mono ?_
    rintro e w1 ⟨rfl, hb1⟩
    clear hC
    go_wp2_with fail
    refine (check_calls p _ H.out.2.lp).mono ?_
    rintro e w2 ⟨rfl, hb2⟩
    go_wp2_with fail
    refine (check_calls q _ H.out.2.lq).mono ?_
    rintro e w3 ⟨rfl, hb3⟩
    have H3 := Lib.hid (below_trans (below_trans hb1 hb2) hb3); clear hb1 hb2 hb3
    go_wp2_with fail
    refine (HW _).mono ?_
    rintro e w4 ⟨rfl, hb4⟩
    have H4 := Lib.hid (below_trans H3.out hb4); clear hb4 HW
    go_wp2_with fail
    refine (HG _ (H.out.1.to H4.out)).mono ?_
    rintro e w5 ⟨rfl, hb5⟩
    clear HG
    go_wp2_with fail
    go_ret
    exact ⟨rfl, below_trans H4.out hb5⟩

end Go.Proofs.YtgdlfjofefhdoaaGreatDoor

namespace Go.Proofs.YtgdlfjofefhdoaaGreatDoor
open Go.RowKit Go.Sort Go.Lib Mb

theorem dg_gcd_k {n d : Int} (k : Nat) (hk : 1 ≤ k) (hd : 0 < d) (h : (dg d).length ≤ k) : (dg (Int.gcd n d : Int)).length ≤ k := by
  have h1 : d.natAbs < 10 ^ k := (decDigits_len_le hk).1 h
  have h2 := (gcd_le (n := n) hd).2
  exact (decDigits_len_le hk).2 (Nat.lt_of_le_of_lt (by omega) h1)
theorem dg_gcd {n d : Int} (hd : 0 < d) (h : (dg d).length ≤ 1024) : (dg (Int.gcd n d : Int)).length ≤ 1024 := dg_gcd_k 1024 (by decide) hd h

/-- lowest of integers of any size -/
theorem lowOps_any {n d : Int} (hd : 0 < d) (ln : (dg n).length ≤ 1024) (ld : (dg d).length ≤ 1024) : LowOps n d := by
  have e1 : rn n d = n / (Int.gcd n d : Int) := by unfold rn; rw [rg_of_pos hd]
  have e2 : rd n d = d / (Int.gcd n d : Int) := by unfold rd; rw [rg_of_pos hd]
  have g := gcd_le (n := n) hd
  have lg := dg_gcd (n := n) hd ld
  have d1 : (Int.gcd n d : Int) ∣ n := Int.gcd_dvd_left ..
  have d2 : (Int.gcd n d : Int) ∣ d := Int.gcd_dvd_right ..
  have l1 := dg_quo ln g.1 d1
  have l2 := dg_quo ld g.1 d2
  exact ⟨hd, fun w hg => gcds_calls n d w hg ln ld,
    fun w hg => by rw [e1]; exact quos_calls n _ w hg ln lg g.1 d1,
    fun w hg => by rw [e2]; exact quos_calls d _ w hg ld lg g.1 d2,
    by rw [e1]; have := itoa_le_dg (n / (Int.gcd n d : Int)); omega,
    by rw [e2]; have := itoa_le_dg (d / (Int.gcd n d : Int)); omega⟩

/-- what lowest gives is right -/
theorem low_rat {n d : Int} (hd : 0 < d) (ln : (dg n).length ≤ 1024) (ld : (dg d).length ≤ 1024) : Rat2 (rn n d) (rd n d) := by
  have e1 : rn n d = n / (Int.gcd n d : Int) := by unfold rn; rw [rg_of_pos hd]
  have e2 : rd n d = d / (Int.gcd n d : Int) := by unfold rd; rw [rg_of_pos hd]
  have g := gcd_le (n := n) hd
  exact ⟨rd_pos (by omega), r_coprime (by omega), by rw [e1]; exact dg_quo ln g.1 (Int.gcd_dvd_left ..), by rw [e2]; exact dg_quo ld g.1 (Int.gcd_dvd_right ..)⟩

/-- two cells that hold numbers as texts -/
theorem checks_calls (b cap : Nat) (p q m n : Int) (w : World) (hg : Good w) (hr : Rat2 p q) (hs : Rat2 m n) (hb : b < w.heap.size) (c0 : w.cell? ⟨b, 0, none⟩ = some (R p q)) (c1 : w.cell? ⟨b, 1, none⟩ = some (R m n)) :
    Calls Tryz.prog 79 #[.slice (some ⟨b, 0, none⟩) 2 cap] w fun e w' => e = .returned (.int .i64 0) ∧ Below w.heap.size w w' := by
  have H := Lib.hid (And.intro hg (And.intro hr (And.intro hs (And.intro c0 c1)))); clear hg hr hs c0 c1
  go_enter Tryz.func79, Tryz.ntmps79
  go_wp2_with fail
  go_loopg [8] 2 (fun g i wr => ∃ k : Nat, k + g = 2 ∧ i = .int .i64 k ∧ Below w.heap.size w wr)
  case atStart => exact ⟨0, rfl, rfl, Below.refl _ _⟩
  case round =>
    obtain ⟨k, hk, rfl, hbel⟩ := hrel
    match k, hk with
    | 0, hk =>
      have c0 : wr.cell? ⟨b, 0, none⟩ = some (R p q) := (hbel.cell (p := ⟨b, 0, none⟩) hb).trans H.out.2.2.2.1
      have HC := rcheck_calls p q wr (H.out.1.to hbel) H.out.2.1
      have HB := Lib.hid hbel; clear hbel
      go_wp2_with fail
      refine HC.mono ?_
      rintro e w1 ⟨rfl, hb1⟩
      clear HC
      go_wp2_with fail
      go_roundg 1
      case measure => omega
      case rel => exact ⟨1, rfl, rfl, below_trans HB.out hb1⟩
    | 1, hk =>
      have c0 : wr.cell? ⟨b, 1, none⟩ = some (R m n) := (hbel.cell (p := ⟨b, 1, none⟩) hb).trans H.out.2.2.2.2
      have HC := rcheck_calls m n wr (H.out.1.to hbel) H.out.2.2.1
      have HB := Lib.hid hbel; clear hbel
      go_wp2_with fail
      refine HC.mono ?_
      rintro e w1 ⟨rfl, hb1⟩
      clear HC
      go_wp2_with fail
      go_roundg 0
      case measure => omega
      case rel => exact ⟨2, rfl, rfl, below_trans HB.out hb1⟩
    | 2, hk =>
      go_wp2_with fail
      go_ret
      exact ⟨rfl, hbel⟩
    | k + 3, hk => omega

set_option maxRecDepth 100000 in
set_option maxHeartbeats 800000 in
theorem smul_calls (s b cap : Nat) (x y : Int) (w : World) (hg : Good w) (hs : Sums w s) (hT : Txts w b [x, y]) (lx : (dg x).length ≤ 1024) (ly : (dg y).length ≤ 1024) (lxy : (dg (x * y)).length ≤ 1024) :
    Calls Tryz.prog 81 #[.pointer (some ⟨s, 0, none⟩), .slice (some ⟨b, 0, none⟩) 2 cap] w fun e w' => e = .returned (S (x * y)) ∧ Below w.heap.size w w' := by
  have t0 := hT.2 0 (by simp)
  have t1 := hT.2 1 (by simp)
  simp only [List.getElem_cons_zero, List.getElem_cons_succ] at t0 t1
  have H := Lib.hid (And.intro hg (And.intro hs (And.intro t0 t1))); clear hg hs t0 t1 hT
  have hone : (dg 1).length ≤ 1024 := dg_one
  have hS : S 1 = .string ⟨#[49]⟩ := by show Value.string ⟨(itoa 1).toArray⟩ = _; rw [itoa_one]
  have hm0 : ∀ w, Good w → Calls Tryz.prog 73 #[.string ⟨#[49]⟩, S x] w fun e w' => e = .returned (.tuple #[S x, .int .i64 0]) ∧ Below w.heap.size w w' := fun w hg => by
    have := muls_calls 1 x w hg hone lx (by rw [Int.one_mul]; exact lx)
    rwa [Int.one_mul, hS] at this
  have hm1 : ∀ w, Good w → Calls Tryz.prog 73 #[S x, S y] w fun e w' => e = .returned (.tuple #[S (x * y), .int .i64 0]) ∧ Below w.heap.size w w' := fun w hg => muls_calls x y w hg lx ly lxy
  have HM := Lib.hid (And.intro hm0 hm1); clear hm0 hm1 hS hone
  go_enter Tryz.func81, Tryz.ntmps81
  go_wp2_with fail
  go_loopg [5, 13] 2 (fun g o i wr => ∃ k : Nat, k + g = 2 ∧ i = .int .i64 k ∧ o = (if k = 0 then .string ⟨#[49]⟩ else if k = 1 then S x else S (x * y)) ∧ Below w.heap.size w wr)
  case atStart => exact ⟨0, rfl, rfl, rfl, Below.refl _ _⟩
  case round =>
    obtain ⟨k, hk, rfl, rfl, hbel⟩ := hrel
    match k, hk with
    | 0, hk =>
      have c0 := cellT H.out.2.2.1 hbel
      have HC := do_calls s 73 (.string ⟨#[49]⟩) (S x) (S x) wr (H.out.2.1.to hbel) (enters_of Tryz.func73 (by kernel_rfl) rfl) (fun w' hb => HM.out.1 w' ((H.out.1.to hbel).to hb))
      have HB := Lib.hid hbel; clear hbel
      go_wp2_with fail
      refine HC.mono ?_
      rintro e w1 ⟨rfl, hb1⟩
      clear HC
      go_wp2_with fail
      go_roundg 1
      case measure => omega
      case rel => exact ⟨1, rfl, rfl, rfl, below_trans HB.out hb1⟩
    | 1, hk =>
      have c0 := cellT H.out.2.2.2 hbel
      have HC := do_calls s 73 (S x) (S y) (S (x * y)) wr (H.out.2.1.to hbel) (enters_of Tryz.func73 (by kernel_rfl) rfl) (fun w' hb => HM.out.2 w' ((H.out.1.to hbel).to hb))
      have HB := Lib.hid hbel; clear hbel
      go_wp2_with fail
      refine HC.mono ?_
      rintro e w1 ⟨rfl, hb1⟩
      clear HC
      go_wp2_with fail
      go_roundg 0
      case measure => omega
      case rel => exact ⟨2, rfl, rfl, rfl, below_trans HB.out hb1⟩
    | 2, hk =>
      go_wp2_with fail
      go_ret
      exact ⟨rfl, hbel⟩
    | k + 3, hk => omega

end Go.Proofs.YtgdlfjofefhdoaaGreatDoor

namespace Go.Proofs.YtgdlfjofefhdoaaGreatDoor
open Go.RowKit Go.Sort Go.Lib Mb

theorem R_cells (w : World) (u v : Value) (t : Nat) : (w.alloc (.cells #[u, v] t)).cell? ⟨w.heap.size, 0, none⟩ = some u ∧ (w.alloc (.cells #[u, v] t)).cell? ⟨w.heap.size, 1, none⟩ = some v ∧ w.heap.size < (w.alloc (.cells #[u, v] t)).heap.size := by
  unfold World.alloc; simp [World.cell?]

set_option maxRecDepth 100000 in
set_option maxHeartbeats 800000 in
theorem rcompare_calls (n p m q : Int) (w : World) (hg : Good w) (hr : Rat2 n p) (hs : Rat2 m q) (l1 : (dg (n * q)).length ≤ 1024) (l2 : (dg (m * p)).length ≤ 1024) :
    Calls Tryz.prog 28 #[R n p, R m q] w fun e w' => e = .returned (.tuple #[.int .i64 (cmp3 (n * q) (m * p)), .int .i64 0]) ∧ Below w.heap.size w w' := by
  have H := Lib.hid (And.intro hg (And.intro hr hs)); clear hg hr hs
  have HR := R_cells w (R n p) (R m q) 24
  go_enter Tryz.func28, Tryz.ntmps28
  go_wp2_with fail
  refine (checks_calls _ _ n p m q _ (H.out.1.alloc _) H.out.2.1 H.out.2.2 HR.2.2 HR.1 HR.2.1).mono ?_
  rintro e w1 ⟨rfl, hb1⟩
  clear HR
  have H1 := Lib.hid (below_trans (alloc_below w _) hb1); clear hb1
  go_wp2_with fail
  refine (rcut_calls n p _ (H.out.1.to H1.out) H.out.2.1).mono ?_
  rintro e w2 ⟨rfl, hb2⟩
  have H2 := Lib.hid (below_trans H1.out hb2); clear hb2
  go_wp2_with fail
  refine (rcut_calls m q _ (H.out.1.to H2.out) H.out.2.2).mono ?_
  rintro e w3 ⟨rfl, hb3⟩
  have H3 := Lib.hid (below_trans H2.out hb3); clear hb3
  go_wp2_with fail
  obtain ⟨w4, hw4⟩ : ∃ w4, w4 = w3.alloc (.cells #[.int .i64 0] 121) := ⟨_, rfl⟩
  obtain ⟨s, hs⟩ : ∃ s, s = w3.heap.size := ⟨_, rfl⟩
  have hsz : w3.heap.size + 1 = w4.heap.size := by rw [hw4, World.size_alloc]
  rw [← hw4, hsz, ← hs]
  have hS : Sums w4 s := by rw [hw4, hs]; exact sums_new w3
  have hb4 : Below w.heap.size w w4 := by rw [hw4]; exact below_trans H3.out (alloc_below w3 _)
  have H4 := Lib.hid (And.intro hS hb4); clear hS hb4 hw4 hs hsz
  refine (smul_calls s _ _ n q _ ((H.out.1.to H4.out.2).alloc _) (H4.out.1.to (alloc_below _ _)) (txts2 w4 n q _) H.out.2.1.lp H.out.2.2.lq l1).mono ?_
  rintro e w5 ⟨rfl, hb5⟩
  have H5 := Lib.hid (And.intro ((H4.out.1.to (alloc_below _ _)).to hb5) (below_trans H4.out.2 (below_trans (alloc_below w4 _) hb5))); clear hb5
  go_wp2_with fail
  refine (smul_calls s _ _ m p _ ((H.out.1.to H5.out.2).alloc _) (H5.out.1.to (alloc_below _ _)) (txts2 w5 m p _) H.out.2.2.lp H.out.2.1.lq l2).mono ?_
  rintro e w6 ⟨rfl, hb6⟩
  have hs6 := (H5.out.1.to (alloc_below w5 _)).to hb6
  have c6 := hs6.c
  have H6 := Lib.hid (below_trans H5.out.2 (below_trans (alloc_below w5 _) hb6)); clear hb6 hs6
  go_wp2_with fail
  refine (wcompare_calls (n * q) (m * p) w6 l1 l2).mono ?_
  rintro e w7 ⟨rfl, hb7⟩
  go_wp2_with fail
  go_ret2
  exact ⟨rfl, below_trans H6.out hb7⟩

end Go.Proofs.YtgdlfjofefhdoaaGreatDoor
