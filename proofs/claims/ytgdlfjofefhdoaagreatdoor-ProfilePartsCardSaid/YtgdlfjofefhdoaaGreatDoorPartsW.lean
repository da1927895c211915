/- The walk of ProfileParts: it answers true. -/
import Derived.Test.YtgdlfjofefhdoaaGreatDoorPartsD
import Derived.Test.YtgdlfjofefhdoaaGreatDoorAw37
namespace Go.Proofs.YtgdlfjofefhdoaaGreatDoor
open Go.RowKit Go.Sort Go.Lib Go.Shelf Mb

attribute [local go_sem] Oper.semAt_some

set_option maxHeartbeats 1600000 in
theorem index37_calls (v : Value) (L : List Nat) (x : Nat) (w : World) (h1 : Irow w v L) (hx : x ∈ L) (hL : L.length ≤ 1000) :
    Calls Tryz.prog 105 #[v, .int .i64 x] w fun e w' => (∃ i : Nat, e = .returned (.int .i64 i) ∧ i ≤ 1000) ∧ Below w.heap.size w w' := by
  obtain ⟨a1, c1, rfl, k1⟩ := h1
  obtain ⟨n, hn⟩ : ∃ n, L.length = n := ⟨_, rfl⟩
  have HC := Lib.hid (And.intro k1 (And.intro hx hn)); clear k1 hx
  rw [hn]
  rw [hn] at hL
  clear hn
  go_enter Tryz.func105, Tryz.ntmps105
  go_wp2_with fail
  go_loopg [8] n (fun g v wr => ∃ i : Nat, i + g = n ∧ v = .int .i64 i ∧ Below w.heap.size w wr ∧ x ∈ L.drop i)
  case atStart => exact ⟨0, Nat.zero_add _, rfl, Below.refl _ _, by rw [List.drop_zero]; exact HC.out.2.1⟩
  case round =>
    obtain ⟨i, hi, rfl, hbel, hmem⟩ := hrel
    by_cases hlt : i < n
    · have hlL : i < L.length := by rw [HC.out.2.2]; exact hlt
      obtain ⟨b1, rfl, -, k1⟩ := HC.out.1 i hlL
      have r1 := cell_to k1 hbel
      have i1 : ((i : Int) < (n : Int)) := by omega
      have z1 : (0 : Int) ≤ (i : Int) := by omega
      have n1 : n ≠ 0 := by omega
      rw [List.drop_eq_getElem_cons hlL] at hmem
      obtain ⟨s, hs⟩ : ∃ s, L[i] = s := ⟨_, rfl⟩
      rw [hs] at r1 hmem
      have HB := Lib.hid (And.intro hbel hmem)
      clear k1 hbel hmem hs
      by_cases hxs : x = s
      · subst hxs
        go_wp2_with fail
        go_ret
        exact ⟨⟨i, rfl, by omega⟩, HB.out.1⟩
      · have d1 : ¬ (x : Int) = (s : Int) := by omega
        have d2 : decide ((x : Int) = (s : Int)) = false := decide_eq_false d1
        go_wp2_with fail
        go_roundg (n - i - 1)
        case measure => omega
        case rel => exact ⟨i + 1, by omega, by go_num, HB.out.1, by
          rcases List.mem_cons.1 HB.out.2 with h | h
          · exact absurd h hxs
          · exact h⟩
    · rw [List.drop_eq_nil_of_le (by rw [HC.out.2.2]; omega)] at hmem
      cases hmem

set_option maxHeartbeats 1600000 in
theorem cont37_calls (v : Value) (L : List Nat) (x : Nat) (w : World) (h1 : Irow w v L) (hx : x ∈ L) (hL : L.length ≤ 1000) :
    Calls Tryz.prog 50 #[v, .int .i64 x] w fun e w' => e = .returned (.bool true) ∧ Below w.heap.size w w' := by
  have H := index37_calls v L x w h1 hx hL
  clear h1 hx hL
  go_enter Tryz.func50, Tryz.ntmps50
  go_wp2_with fail
  refine H.mono ?_
  rintro e w1 ⟨⟨i, rfl, hi⟩, hb⟩
  have z1 : (0 : Int) ≤ (i : Int) := by omega
  go_wp2_with fail
  go_ret
  exact ⟨rfl, hb⟩

def rightB (l : List P2) : Bool := decide (l.length ≤ 8) && decide (pErr l true = 0)
theorem right37_calls (l : List P2) (a : Option Addr) (cap : Nat) (w : World) (hT : Sl2 w a l) (hn : l.length ≤ maxLen) :
    Calls Tryz.prog 47 #[.slice a l.length cap] w fun e w' => e = .returned (.bool (rightB l)) ∧ Below w.heap.size w w' := by
  have hn' : l.length ≤ 9223372036854775807 := Nat.le_trans hn (by decide)
  by_cases h1 : l.length ≤ 8
  · have h1' : (l.length : Int) ≤ 8 := by omega
    have H := pcheckR_calls l a cap true w hT (by omega)
    have hr : rightB l = decide (pErr l true = 0) := by unfold rightB; rw [decide_eq_true h1, Bool.true_and]
    rw [hr]
    generalize pErr l true = er at H ⊢
    by_cases he : er = 0
    · subst he
      clear hT hr hn
      go_enter Tryz.func47, Tryz.ntmps47
      go_wp2_with fail
      refine H.mono ?_
      rintro e w1 ⟨rfl, hb⟩
      go_wp2_with fail
      go_ret
      exact ⟨rfl, hb⟩
    · have d1 : decide (er = 0) = false := decide_eq_false he
      rw [d1]
      clear hT hr hn
      go_enter Tryz.func47, Tryz.ntmps47
      go_wp2_with fail
      refine H.mono ?_
      rintro e w1 ⟨rfl, hb⟩
      go_wp2_with fail
      go_ret
      exact ⟨ret_b (by simp [he]), hb⟩
  · have h1' : ¬ (l.length : Int) ≤ 8 := by omega
    have hr : rightB l = false := by unfold rightB; rw [decide_eq_false h1, Bool.false_and]
    rw [hr]
    clear hT hr hn
    go_enter Tryz.func47, Tryz.ntmps47
    go_wp2_with fail
    go_ret
    exact ⟨ret_b (by simp), Below.refl _ _⟩

theorem inV_cases (l : List P2) (p : P2) : inV l p = 1 ∨ inV l p = 0 ∨ inV l p = -1 := by
  unfold inV
  split
  · exact locV_cases l p
  · exact .inr (.inl rfl)

set_option maxRecDepth 100000 in
set_option maxHeartbeats 4000000 in
theorem parts_short (l pts : List P2) (a b : Option Addr) (cap cap' : Nat) (t : Int) (w : World) (hg : Good w) (hT : Sl2 w a l) (hP : Sl2 w b pts) (hn : l.length ≤ maxLen) (hpn : pts.length ≤ maxLen) (h : rightB l = false ∨ 8 < pts.length ∨ errL pts ≠ 0) :
    Calls Tryz.prog 10 #[.slice a l.length cap, .slice b pts.length cap', .int .u8 t] w fun e w' => e = .returned (.bool true) ∧ Below w.heap.size w w' := by
  have hn' : l.length ≤ 9223372036854775807 := Nat.le_trans hn (by decide)
  have hpn' : pts.length ≤ 9223372036854775807 := Nat.le_trans hpn (by decide)
  have HR := right37_calls l a cap w hT hn
  cases hr : rightB l with
  | false =>
    rw [hr] at HR
    have HG := Lib.hid hg
    clear h hr hT hP hg hn hpn
    go_enter Tryz.func10, Tryz.ntmps10
    go_wp2_with fail
    refine HR.mono ?_
    rintro e w1 ⟨rfl, hb1⟩
    clear HR
    go_wp2_with fail
    refine (awake37_calls _ (HG.out.to hb1)).mono ?_
    rintro e w2 ⟨rfl, hb2⟩
    go_wp2_with fail
    go_ret
    exact ⟨rfl, below_trans hb1 hb2⟩
  | true =>
    rw [hr] at HR
    by_cases h8 : 8 < pts.length
    · have h8' : (8 : Int) < pts.length := by omega
      have HG := Lib.hid hg
      clear h hr hT hP hg hn hpn
      go_enter Tryz.func10, Tryz.ntmps10
      go_wp2_with fail
      refine HR.mono ?_
      rintro e w1 ⟨rfl, hb1⟩
      clear HR
      go_wp2_with fail
      refine (awake37_calls _ (HG.out.to hb1)).mono ?_
      rintro e w2 ⟨rfl, hb2⟩
      go_wp2_with fail
      go_ret
      exact ⟨rfl, below_trans hb1 hb2⟩
    · have he : errL pts ≠ 0 := by
        rcases h with h | h | h
        · rw [h] at hr; cases hr
        · exact absurd h h8
        · exact h
      have h8' : ¬ (8 : Int) < pts.length := by omega
      have HV := fun W hP => rcheckP_calls pts b cap' W hP hpn'
      generalize errL pts = er at HV he
      have d1 : (er != 0) = true := by simpa using he
      have HG := Lib.hid (And.intro hg (And.intro hP HV))
      clear h hr hT hP hg hn hpn HV
      go_enter Tryz.func10, Tryz.ntmps10
      go_wp2_with fail
      refine HR.mono ?_
      rintro e w1 ⟨rfl, hb1⟩
      clear HR
      go_wp2_with fail
      refine (HG.out.2.2 _ (HG.out.2.1.to hb1)).mono ?_
      rintro e w2 ⟨rfl, hb2⟩
      have hb3 := below_trans hb1 hb2
      go_wp2_with fail
      refine (awake37_calls _ (HG.out.1.to hb3)).mono ?_
      rintro e w3 ⟨rfl, hb4⟩
      go_wp2_with fail
      go_ret
      exact ⟨rfl, below_trans hb3 hb4⟩

set_option maxRecDepth 100000 in
set_option maxHeartbeats 8000000 in
theorem parts_main (l pts : List P2) (a b : Option Addr) (cap cap' : Nat) (t : Int) (w : World) (hg : Good w) (hT : Sl2 w a l) (hP : Sl2 w b pts) (h0 : 0 ≤ t) (h1 : t ≤ 255) (hr : rightB l = true) (h8 : pts.length ≤ 8) (he : errL pts = 0) (hn : l.length ≤ maxLen) :
    Calls Tryz.prog 10 #[.slice a l.length cap, .slice b pts.length cap', .int .u8 t] w fun e w' => e = .returned (.bool true) ∧ Below w.heap.size w w' := by
  have HR := right37_calls l a cap w hT hn
  have hr' := hr
  simp only [rightB, Bool.and_eq_true, decide_eq_true_eq] at hr'
  obtain ⟨hl8, hpe⟩ := hr'
  rw [hr] at HR
  have HV := fun W hP => rcheckP_calls pts b cap' W hP (by omega)
  rw [he] at HV
  have HU := fun (W : World) hg hT hP => pUnequal_calls l pts a b cap cap' t t W hg hT hP (by omega) (by omega)
  have HO := fun (W : World) hg hT hP => pOutside_calls l pts a b cap cap' true (2 * t) W hg hT hP (by omega) (by omega)
  have HM := fun (W : World) hg hT hP => pUnequal_calls l pts a b cap cap' t 100000 W hg hT hP (by omega) (by omega)
  obtain ⟨e1, e2, e3, e4, hc, ha⟩ := parts_law h0 h1 hpe he
  rw [e1] at HU; rw [e2, ← e4] at HO; rw [e3] at HM
  have hI := fun k (hk : k ∈ unL l pts t t) (W : World) hg hT => by
    have h := pInside_calls l a cap (g2 pts k) W hg hT (by omega)
    rw [(ha k hk).2.1] at h
    exact h
  have hlen : (unL l pts t t).length ≤ 8 := by
    unfold unL; rw [if_pos e1]
    have := idxL_len (unB l pts t t) pts.length; omega
  have hlen2 : (unL l pts t 100000).length ≤ 8 := by
    unfold unL; rw [if_pos e3]
    have := idxL_len (unB l pts t 100000) pts.length; omega
  generalize unL l pts t t = LA at *
  generalize unL l pts t 100000 = LC at *
  have i8 : ¬ (8 : Int) < pts.length := by omega
  have w1 : IntKind.i64.wrap (2 * t) = 2 * t := IntWalk.i64_in _ (by omega)
  have w2 : IntKind.i64.wrap t = t := IntWalk.i64_in _ (by omega)
  have H := Lib.hid (And.intro hg (And.intro hT (And.intro hP (And.intro HV (And.intro HU (And.intro HO (And.intro HM (And.intro hc (And.intro ha (And.intro hI (And.intro hlen hlen2)))))))))))
  clear hg hT hP HV HU HO HM hc ha hI hlen hlen2 hr he hn e1 e2 e3 e4 hpe hl8
  go_enter Tryz.func10, Tryz.ntmps10
  go_wp2_with fail
  refine HR.mono ?_
  rintro e wa ⟨rfl, hb1⟩
  clear HR
  go_wp2_with fail
  refine (H.out.2.2.2.1 _ (H.out.2.2.1.to hb1)).mono ?_
  rintro e wb ⟨rfl, hb2⟩
  have HA := Lib.hid (below_trans hb1 hb2); clear hb1 hb2
  go_wp2_with fail
  refine (H.out.2.2.2.2.1 _ (H.out.1.to HA.out) (H.out.2.1.to HA.out) (H.out.2.2.1.to HA.out)).mono ?_
  rintro e wc ⟨⟨va, rfl, hva⟩, hb3⟩
  have HB := Lib.hid (And.intro (below_trans HA.out hb3) hva); clear hb3 hva
  go_wp2_with fail
  refine (H.out.2.2.2.2.2.1 _ (H.out.1.to HB.out.1) (H.out.2.1.to HB.out.1) (H.out.2.2.1.to HB.out.1)).mono ?_
  rintro e wd ⟨⟨vb, rfl, hvb⟩, hb4⟩
  have HC := Lib.hid (And.intro (below_trans HB.out.1 hb4) (And.intro (HB.out.2.to hb4) hvb)); clear hb4 hvb
  go_wp2_with fail
  refine (H.out.2.2.2.2.2.2.1 _ (H.out.1.to HC.out.1) (H.out.2.1.to HC.out.1) (H.out.2.2.1.to HC.out.1)).mono ?_
  rintro e we ⟨⟨vc, rfl, hvc⟩, hb5⟩
  have HD := Lib.hid (And.intro (below_trans HC.out.1 hb5) (And.intro (HC.out.2.1.to hb5) (And.intro (HC.out.2.2.to hb5) hvc))); clear hb5 hvc
  go_wp2_with fail
  refine (eqs_calls _ _ LA _ HD.out.2.1 HD.out.2.2.1 (by have := H.out.2.2.2.2.2.2.2.2.2.2.1; omega) (fun x hx => by have := (H.out.2.2.2.2.2.2.2.2.1 x hx).1; omega)).mono ?_
  rintro e wf ⟨rfl, hb6⟩
  have HE := Lib.hid (And.intro (below_trans HD.out.1 hb6) (And.intro (HD.out.2.1.to hb6) (HD.out.2.2.2.to hb6))); clear hb6
  obtain ⟨aa, ca, rfl, hca⟩ := HE.out.2.1
  obtain ⟨ac, cc, rfl, hcc⟩ := HE.out.2.2
  obtain ⟨na, hna⟩ : ∃ n, LA.length = n := ⟨_, rfl⟩
  obtain ⟨nc, hnc⟩ : ∃ n, LC.length = n := ⟨_, rfl⟩
  rw [hna, hnc]
  have hna8 : na ≤ 8 := by rw [← hna]; exact H.out.2.2.2.2.2.2.2.2.2.2.1
  have hnc8 : nc ≤ 8 := by rw [← hnc]; exact H.out.2.2.2.2.2.2.2.2.2.2.2
  have IA : Irow wf (.slice aa na ca) LA := ⟨aa, ca, by rw [hna], hca⟩
  have IC : Irow wf (.slice ac nc cc) LC := ⟨ac, cc, by rw [hnc], hcc⟩
  have HF := Lib.hid (And.intro hca (And.intro hcc (And.intro hna (And.intro hnc (And.intro IA (And.intro IC HE.out.1))))))
  clear hca hcc hna hnc IA IC HE HD HC HB HA
  go_wp2_with fail
  go_loopg [74] nc (fun g v wr => ∃ i : Nat, i + g = nc ∧ v = .int .i64 i ∧ Below wf.heap.size wf wr)
  case atStart => exact ⟨0, Nat.zero_add _, rfl, Below.refl _ _⟩
  case round =>
    obtain ⟨i, hi, rfl, hbel⟩ := hrel
    by_cases hlt : i < nc
    · have hlL : i < LC.length := by rw [HF.out.2.2.2.1]; exact hlt
      obtain ⟨b1, rfl, -, k1⟩ := HF.out.2.1 i hlL
      have r1 := cell_to k1 hbel
      have i1 : ((i : Int) < (nc : Int)) := by omega
      have z1 : (0 : Int) ≤ (i : Int) := by omega
      have n1 : nc ≠ 0 := by omega
      have hm := H.out.2.2.2.2.2.2.2.1 LC[i] (List.getElem_mem _)
      obtain ⟨s, hs⟩ : ∃ s, LC[i] = s := ⟨_, rfl⟩
      rw [hs] at r1 hm
      have s1 : ¬ (s : Int) < 0 := by omega
      have s2 : ¬ (pts.length : Int) ≤ (s : Int) := by have := hm.1; omega
      have s3 : (s : Int) < (pts.length : Int) := by have := hm.1; omega
      have HQ := Lib.hid (And.intro hbel hm.2)
      clear k1 hbel hm hs
      go_wp2_with fail
      refine (cont37_calls _ LA s _ (HF.out.2.2.2.2.1.to HQ.out.1) HQ.out.2 (by rw [HF.out.2.2.1]; omega)).mono ?_
      rintro e wg ⟨rfl, hb⟩
      have hb2 := HQ.out.1.trans (hb.mono HQ.out.1.size)
      have HS := Lib.hid hb2; clear hb hb2
      go_wp2_with fail
      go_roundg (nc - i - 1)
      case measure => omega
      case rel => exact ⟨i + 1, by omega, by go_num, HS.out⟩
    · have HG := Lib.hid hbel; clear hbel
      go_wp2_with fail
      go_loopg [95] na (fun g v wq => ∃ i : Nat, i + g = na ∧ v = .int .i64 i ∧ Below wf.heap.size wf wq)
      case atStart => exact ⟨0, Nat.zero_add _, rfl, HG.out⟩
      case round =>
        obtain ⟨i, hi, rfl, hbel⟩ := hrel
        by_cases hlt : i < na
        · have hlL : i < LA.length := by rw [HF.out.2.2.1]; exact hlt
          obtain ⟨b1, rfl, -, k1⟩ := HF.out.1 i hlL
          have r1 := cell_to k1 hbel
          have i1 : ((i : Int) < (na : Int)) := by omega
          have z1 : (0 : Int) ≤ (i : Int) := by omega
          have n1 : na ≠ 0 := by omega
          have hmem := List.getElem_mem hlL
          obtain ⟨s, hs⟩ : ∃ s, LA[i] = s := ⟨_, rfl⟩
          rw [hs] at r1 hmem
          have hm := H.out.2.2.2.2.2.2.2.2.1 s hmem
          have HIn := fun W hg hT => H.out.2.2.2.2.2.2.2.2.2.1 s hmem W hg hT
          have s1 : ¬ (s : Int) < 0 := by omega
          have s2 : ¬ (pts.length : Int) ≤ (s : Int) := by have := hm.1; omega
          have s3 : (s : Int) < (pts.length : Int) := by have := hm.1; omega
          have s4 : (0 : Int) ≤ (s : Int) := by omega
          have hbw := HF.out.2.2.2.2.2.2.trans (hbel.mono HF.out.2.2.2.2.2.2.size)
          obtain ⟨bb, o, rfl, hbl, c1, c2⟩ := g2_cells (H.out.2.2.1.to hbw) hm.1
          obtain ⟨pp, hpp⟩ : ∃ pp, g2 pts s = pp := ⟨_, rfl⟩
          rw [hpp] at c1 c2 hm HIn
          have hic := inV_cases l pp
          generalize inV l pp = iv at hm HIn hic
          have HQ := Lib.hid (And.intro hbel (And.intro hm (And.intro HIn hbw)))
          rcases hic with rfl | rfl | rfl
          · clear k1 hbel hm hs hmem HIn hbw hpp
            go_wp2_with fail
            refine (HQ.out.2.2.1 _ (H.out.1.to HQ.out.2.2.2) (H.out.2.1.to HQ.out.2.2.2)).mono ?_
            rintro e wg ⟨rfl, hb⟩
            have hb2 := HQ.out.1.trans (hb.mono HQ.out.1.size)
            have HS := Lib.hid hb2; clear hb hb2
            go_wp2_with fail
            refine (cont37_calls _ LC s _ (HF.out.2.2.2.2.2.1.to HS.out) (HQ.out.2.1.2.2.2 (by omega)) (by rw [HF.out.2.2.2.1]; omega)).mono ?_
            rintro e wh ⟨rfl, hb⟩
            have hb2 := HS.out.trans (hb.mono HS.out.size)
            have HX := Lib.hid hb2; clear hb hb2
            go_wp2_with fail
            go_roundg (na - i - 1)
            case measure => omega
            case rel => exact ⟨i + 1, by omega, by go_num, HX.out⟩
          · exact absurd rfl hm.2.2.1
          · clear k1 hbel hm hs hmem HIn hbw hpp
            go_wp2_with fail
            refine (HQ.out.2.2.1 _ (H.out.1.to HQ.out.2.2.2) (H.out.2.1.to HQ.out.2.2.2)).mono ?_
            rintro e wg ⟨rfl, hb⟩
            have hb2 := HQ.out.1.trans (hb.mono HQ.out.1.size)
            have HS := Lib.hid hb2; clear hb hb2
            go_wp2_with fail
            go_roundg (na - i - 1)
            case measure => omega
            case rel => exact ⟨i + 1, by omega, by go_num, HS.out⟩
        · have hbw := HF.out.2.2.2.2.2.2.trans (hbel.mono HF.out.2.2.2.2.2.2.size)
          have HQ := Lib.hid hbw; clear hbw hbel
          go_wp2_with fail
          refine (awake37_calls _ (H.out.1.to HQ.out)).mono ?_
          rintro e wg ⟨rfl, hb⟩
          go_wp2_with fail
          go_ret
          exact ⟨rfl, below_trans HQ.out hb⟩

theorem parts_calls (l pts : List P2) (a b : Option Addr) (cap cap' : Nat) (t : Int) (w : World) (hg : Good w) (hT : Sl2 w a l) (hP : Sl2 w b pts) (hn : l.length ≤ maxLen) (hpn : pts.length ≤ maxLen) (ht : 0 ≤ t ∧ t ≤ 255) :
    Calls Tryz.prog 10 #[.slice a l.length cap, .slice b pts.length cap', .int .u8 t] w fun e w' => e = .returned (.bool true) ∧ Below w.heap.size w w' := by
  by_cases h : rightB l = false ∨ 8 < pts.length ∨ errL pts ≠ 0
  · exact parts_short l pts a b cap cap' t w hg hT hP hn hpn h
  · have h1 : rightB l = true := by
      cases hr : rightB l with
      | true => rfl
      | false => exact absurd (.inl hr) h
    have h2 : pts.length ≤ 8 := Nat.le_of_not_lt fun e => h (.inr (.inl e))
    have h3 : errL pts = 0 := Classical.byContradiction fun e => h (.inr (.inr e))
    exact parts_main l pts a b cap cap' t w hg hT hP ht.1 ht.2 h1 h2 h3 hn

end Go.Proofs.YtgdlfjofefhdoaaGreatDoor
