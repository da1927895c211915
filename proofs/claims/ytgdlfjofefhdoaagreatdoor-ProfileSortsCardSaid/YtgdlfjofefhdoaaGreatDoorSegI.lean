/- The reference's Worst. -/
import Derived.Test.YtgdlfjofefhdoaaGreatDoorSegH
namespace Go.Proofs.YtgdlfjofefhdoaaGreatDoor
open Go.RowKit Go.Sort Go.Lib Go.Shelf Mb

attribute [local go_sem] Oper.semAt_some

theorem wst_l {n d : Int} (h : Wst n d) : (dg n).length ≤ 900 ∧ (dg d).length ≤ 900 := by
  have h1 := h.n0; have h2 := h.n1; have h3 := h.d1; have h4 := h.r.pos
  have a := dg_of_lt (n := n) (k := 24) (by omega) (by omega)
  have b := dg_of_lt (n := d) (k := 12) (by omega) (by omega)
  omega

theorem wfl_eq {l : List P2} {c : Bool} {pts : List P2} (he : pErr l c = 0) (hpe : errOf pts = 0) (k : Nat) : wfl l c pts (-1, 1, 0) (k + 1) = wfl l c pts (0, 1, 0) (k + 1) := by
  induction k with
  | zero =>
    obtain ⟨⟨n, d, j⟩, hn⟩ := nrst_some (p := g2 pts 0) he
    have hok := nrst_ok (l := l) (c := c) (g2_flat hpe 0)
    rw [hn] at hok
    have hd := hok.1.r.pos
    have h0 := hok.1.n0
    show wstep (nrst l c (g2 pts 0)) 0 (-1, 1, 0) = wstep (nrst l c (g2 pts 0)) 0 (0, 1, 0)
    rw [hn]
    unfold wstep
    simp only
    rw [if_pos (by omega)]
    by_cases hn0 : n = 0
    · rw [if_neg (by omega)]
      have hg := hok.1.r.co
      rw [hn0, Int.gcd_zero_left] at hg
      have : d = 1 := by omega
      rw [hn0, this]
    · rw [if_pos (by omega)]
  | succ k ih =>
    show wstep (nrst l c (g2 pts (k + 1))) (k + 1) (wfl l c pts (-1, 1, 0) (k + 1)) = wstep (nrst l c (g2 pts (k + 1))) (k + 1) (wfl l c pts (0, 1, 0) (k + 1))
    rw [ih]

theorem R_z1 : R 0 1 = .string ⟨#[48]⟩ := by
  rw [R_one]
  show Value.string ⟨(itoa ((0 : Nat) : Int)).toArray⟩ = _
  rw [Mb.itoa_nonneg (by omega)]
  simp [decDigits]

set_option maxRecDepth 100000 in
set_option maxHeartbeats 8000000 in
theorem rworq_calls (l pts : List P2) (a b : Option Addr) (cap cap' : Nat) (c : Bool) (w : World) (hT : Sl2 w a l) (hP : Sl2 w b pts) (he : pErr l c = 0) (hpe : errL pts = 0) (h3 : ¬ pts.length = 0) (hn : l.length ≤ 1000000) (hpn : pts.length ≤ 1000000) :
    Calls Tryz.prog 46 #[.slice a l.length cap, .bool c, .slice b pts.length cap'] w fun e w' => e = .returned (.tuple #[R (wfl l c pts (0, 1, 0) pts.length).1 (wfl l c pts (0, 1, 0) pts.length).2.1, .int .i64 ((wfl l c pts (0, 1, 0) pts.length).2.2 : Int), .int .i64 0]) ∧ Below w.heap.size w w' := by
  have HC := pcheckR_calls l a cap c w hT hn
  have HV := fun (W : World) hP => rcheckP_calls pts b cap' W hP (by omega)
  obtain ⟨hp64, hpe0⟩ := errL_ok hpe
  rw [he] at HC; rw [hpe] at HV
  have h3' : ¬ (pts.length : Int) = 0 := by omega
  have d3 : ((pts.length : Int) == 0) = false := by simpa using h3'
  have HH := Lib.hid (And.intro hT (And.intro hP (And.intro he (And.intro hpe0 HV))))
  clear hT hP he hpe0 HV hn hpn hpe
  go_enter Tryz.func46, Tryz.ntmps46
  go_wp2_with fail
  refine HC.mono ?_
  rintro e w1 ⟨rfl, hb1⟩
  clear HC
  go_wp2_with fail
  refine (HH.out.2.2.2.2 _ (HH.out.2.1.to hb1)).mono ?_
  rintro e w2 ⟨rfl, hb2⟩
  have HB := Lib.hid (below_trans hb1 hb2); clear hb1 hb2
  go_wp2_with fail
  go_loopg [11, 12, 13] pts.length (fun g bv av iv wr => ∃ (k : Nat) (m e : Int) (j : Nat), k + g = pts.length ∧ iv = .int .i64 k ∧ bv = R m e ∧ av = .int .i64 j ∧ wfl l c pts (0, 1, 0) k = (m, e, j) ∧ Wst m e ∧ Below w.heap.size w wr)
  case atStart => exact ⟨0, 0, 1, 0, Nat.zero_add _, rfl, R_z1.symm, rfl, rfl, wst_zero, HB.out⟩
  case round =>
    obtain ⟨k, m, e, j, hk, rfl, rfl, rfl, hwf, hw, hbel⟩ := hrel
    by_cases hlt : k < pts.length
    · have i1 : ((k : Int) < pts.length) := by omega
      have z1 : (0 : Int) ≤ (k : Int) := by omega
      obtain ⟨bb, o, rfl, hbl, c1, c2⟩ := g2_cells (HH.out.2.1.to hbel) hlt
      have hst : wfl l c pts (0, 1, 0) (k + 1) = wstep (nrst l c (g2 pts k)) k (m, e, j) := by rw [← hwf]; rfl
      obtain ⟨pp, hpp⟩ : ∃ pp, g2 pts k = pp := ⟨_, rfl⟩
      have hpl : flatB pp = true := by rw [← hpp]; exact g2_flat HH.out.2.2.2.1 k
      rw [hpp] at c1 c2 hst
      obtain ⟨⟨n, d, jj⟩, hn⟩ := nrst_some (p := pp) HH.out.2.2.1
      have hok := nrst_ok (l := l) (c := c) hpl
      have HN := fun W hT => rnear_calls l a cap c pp W hT HH.out.2.2.1 hpl
      rw [hn] at hok HN hst
      have hx := Wst.of hok.1
      have HO := fun W => rorder2_calls n d m e W hx.r.pos hw.r.pos (wst_l hx).1 (wst_l hx).2 (wst_l hw).1 (wst_l hw).2
      have e1 : bV (some (n, d, jj)) = R n d := rfl
      rw [e1] at HN
      obtain ⟨av, hav⟩ : ∃ v, aV (some (n, d, jj)) = v := ⟨_, rfl⟩
      rw [hav] at HN
      obtain ⟨sx, hsx⟩ : ∃ s, R n d = .string s := ⟨_, rfl⟩
      obtain ⟨sb, hsb⟩ : ∃ s, R m e = .string s := ⟨_, rfl⟩
      rw [hsx] at HN HO
      rw [hsb] at HO
      have hcb := cmp3_bd (n * e) (m * d)
      by_cases hc : m * d < n * e
      · have ho : cmp3 (n * e) (m * d) = 1 := by unfold cmp3; rw [if_neg (by omega), if_pos hc]
        rw [ho] at HO
        have hst2 : wfl l c pts (0, 1, 0) (k + 1) = (n, d, k) := by rw [hst]; unfold wstep; simp only; rw [if_pos hc]
        have H := Lib.hid (And.intro hbel (And.intro HN (And.intro HO (And.intro hst2 (And.intro hx hsx)))))
        rw [hsb]
        clear hbel HN HO hst hst2 hx hsx hsb hw hwf hok hn hpl hpp hav e1 ho hc hcb
        go_wp2_with fail
        refine (H.out.2.1 _ (HH.out.1.to H.out.1)).mono ?_
        rintro r w5 ⟨rfl, hb5⟩
        go_wp2_with fail
        refine (H.out.2.2.1 _).mono ?_
        rintro r w6 ⟨rfl, hb6⟩
        have hb7 := H.out.1.trans ((below_trans hb5 hb6).mono H.out.1.size)
        have HZ := Lib.hid hb7; clear hb5 hb6 hb7
        go_wp2_with fail
        go_roundg (gk - 1)
        case measure => omega
        case rel => exact ⟨k + 1, n, d, k, by omega, by go_num, H.out.2.2.2.2.2.symm, rfl, H.out.2.2.2.1, H.out.2.2.2.2.1, HZ.out⟩
      · have hst2 : wfl l c pts (0, 1, 0) (k + 1) = (m, e, j) := by rw [hst]; unfold wstep; simp only; rw [if_neg hc]
        have ho : ¬ 0 < cmp3 (n * e) (m * d) := fun h => hc (wst_gt.1 h)
        generalize cmp3 (n * e) (m * d) = o at HO ho hcb
        have d0 : decide (0 < o) = false := decide_eq_false ho
        have H := Lib.hid (And.intro hbel (And.intro HN (And.intro HO (And.intro hst2 (And.intro hw hsb)))))
        rw [hsb]
        clear hbel HN HO hst hst2 hx hsx hsb hw hwf hok hn hpl hpp hav e1 hc
        go_wp2_with fail
        refine (H.out.2.1 _ (HH.out.1.to H.out.1)).mono ?_
        rintro r w5 ⟨rfl, hb5⟩
        go_wp2_with fail
        refine (H.out.2.2.1 _).mono ?_
        rintro r w6 ⟨rfl, hb6⟩
        have hb7 := H.out.1.trans ((below_trans hb5 hb6).mono H.out.1.size)
        have HZ := Lib.hid hb7; clear hb5 hb6 hb7
        go_wp2_with fail
        go_roundg (gk - 1)
        case measure => omega
        case rel => exact ⟨k + 1, m, e, j, by omega, by go_num, H.out.2.2.2.2.2.symm, rfl, H.out.2.2.2.1, H.out.2.2.2.2.1, HZ.out⟩
    · have hke : k = pts.length := by omega
      subst hke
      obtain ⟨sb, hsb⟩ : ∃ s, R m e = .string s := ⟨_, rfl⟩
      have H := Lib.hid (And.intro hwf (And.intro hsb hbel))
      clear hwf hw hbel
      rw [hsb]
      clear hsb
      go_wp2_with fail
      go_ret3
      refine ⟨?_, H.out.2.2⟩
      rw [H.out.1]
      show _ = Ending.returned (.tuple #[R m e, .int .i64 j, .int .i64 0])
      rw [H.out.2.1]
      rfl

set_option maxRecDepth 100000 in
set_option maxHeartbeats 3200000 in
theorem rWorst_calls (l pts : List P2) (a b : Option Addr) (cap cap' : Nat) (c : Bool) (w : World) (hT : Sl2 w a l) (hP : Sl2 w b pts) (hn : l.length ≤ 1000000) (hpn : pts.length ≤ 1000000) :
    Calls Tryz.prog 46 #[.slice a l.length cap, .bool c, .slice b pts.length cap'] w fun e w' => e = .returned (.tuple #[woV l c pts, .int .i64 (woI l c pts), .int .i64 (woE l c pts)]) ∧ Below w.heap.size w w' := by
  have HC := pcheckR_calls l a cap c w hT hn
  have HV := fun (W : World) hP => rcheckP_calls pts b cap' W hP (by omega)
  by_cases h1 : pErr l c = 0
  · rw [h1] at HC
    by_cases h2 : errL pts = 0
    · rw [h2] at HV
      by_cases h3 : pts.length = 0
      · have h4 : woE l c pts = 13 := by unfold woE; rw [if_pos h1, if_pos h2, if_pos h3]
        rw [h4, show woV l c pts = .string ⟨#[]⟩ by unfold woV; rw [if_neg (by rw [h4]; decide)], show woI l c pts = 0 by unfold woI; rw [if_neg (by rw [h4]; decide)]]
        have H := Lib.hid (And.intro hP HV)
        rw [h3] at H ⊢
        clear hT hP h1 h2 h4 HV hn hpn h3
        go_enter Tryz.func46, Tryz.ntmps46
        go_wp2_with fail
        refine HC.mono ?_
        rintro e w1 ⟨rfl, hb1⟩
        clear HC
        go_wp2_with fail
        refine (H.out.2 _ (H.out.1.to hb1)).mono ?_
        rintro e w2 ⟨rfl, hb2⟩
        go_wp2_with fail
        go_ret3
        exact ⟨rfl, below_trans hb1 hb2⟩
      · have h4 : woE l c pts = 0 := by unfold woE; rw [if_pos h1, if_pos h2, if_neg h3]
        rw [h4, show woV l c pts = R (wfl l c pts (-1, 1, 0) pts.length).1 (wfl l c pts (-1, 1, 0) pts.length).2.1 by unfold woV; rw [if_pos h4], show woI l c pts = ((wfl l c pts (-1, 1, 0) pts.length).2.2 : Int) by unfold woI; rw [if_pos h4]]
        have he : wfl l c pts (-1, 1, 0) pts.length = wfl l c pts (0, 1, 0) pts.length := by
          obtain ⟨k, hk⟩ : ∃ k, pts.length = k + 1 := ⟨pts.length - 1, by omega⟩
          rw [hk]
          exact wfl_eq h1 (errL_ok h2).2 k
        rw [he]
        exact rworq_calls l pts a b cap cap' c w hT hP h1 h2 h3 hn hpn
    · have h4 : woE l c pts = errL pts := by unfold woE; rw [if_pos h1, if_neg h2]
      rw [h4, show woV l c pts = .string ⟨#[]⟩ by unfold woV; rw [if_neg (by rw [h4]; exact h2)], show woI l c pts = 0 by unfold woI; rw [if_neg (by rw [h4]; exact h2)]]
      generalize errL pts = er at HV h2 ⊢
      have H := Lib.hid (And.intro hP HV)
      clear hT hP h1 h4 HV hn hpn
      go_enter Tryz.func46, Tryz.ntmps46
      go_wp2_with fail
      refine HC.mono ?_
      rintro e w1 ⟨rfl, hb1⟩
      clear HC
      go_wp2_with fail
      refine (H.out.2 _ (H.out.1.to hb1)).mono ?_
      rintro e w2 ⟨rfl, hb2⟩
      go_wp2_with fail
      go_ret3
      exact ⟨rfl, below_trans hb1 hb2⟩
  · have h4 : woE l c pts = pErr l c := by unfold woE; rw [if_neg h1]
    rw [h4, show woV l c pts = .string ⟨#[]⟩ by unfold woV; rw [if_neg (by rw [h4]; exact h1)], show woI l c pts = 0 by unfold woI; rw [if_neg (by rw [h4]; exact h1)]]
    generalize pErr l c = er at HC h1 ⊢
    clear hT hP h4 HV hn hpn
    go_enter Tryz.func46, Tryz.ntmps46
    go_wp2_with fail
    refine HC.mono ?_
    rintro e w1 ⟨rfl, hb1⟩
    clear HC
    go_wp2_with fail
    go_ret3
    exact ⟨rfl, hb1⟩

end Go.Proofs.YtgdlfjofefhdoaaGreatDoor
