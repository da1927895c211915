/- The reference's Unequal, SameInts. -/
import Derived.Test.YtgdlfjofefhdoaaGreatDoorSegE
import Derived.Test.YtgdlfjofefhdoaaGreatDoorProfK
namespace Go.Proofs.YtgdlfjofefhdoaaGreatDoor
open Go.RowKit Go.Sort Go.Lib Go.Shelf Mb

attribute [local go_sem] Oper.semAt_some

theorem unB_eq (l pts : List P2) (x y : Int) (k : Nat) : unB l pts x y k = if 0 < locV l (g2 pts k) then ndB x 1 (nrst l true (g2 pts k)) else if locV l (g2 pts k) < 0 then ndB y 1 (nrst l true (g2 pts k)) else false := by
  unfold unB
  rw [btB_eq (by omega), btB_eq (by omega)]

theorem tolE_2b (x y : Int) : tolE [x, y] = if tolB x = true ∧ tolB y = true then 0 else 2 := by
  unfold tolE
  by_cases h : tolB x = true ∧ tolB y = true
  · rw [if_pos h, if_pos (by simp [h.1, h.2])]
  · rw [if_neg h, if_neg]
    cases h1 : tolB x
    · simp [h1]
    · cases h2 : tolB y
      · simp [h1, h2]
      · exact absurd ⟨h1, h2⟩ h
theorem tolB_bd {x : Int} (h : tolB x = true) : 0 ≤ x ∧ x ≤ 100000 := by simpa [tolB] using h

set_option maxRecDepth 100000 in
set_option maxHeartbeats 8000000 in
theorem runq_calls (l pts : List P2) (a b : Option Addr) (cap cap' : Nat) (x y : Int) (w : World) (hT : Sl2 w a l) (hP : Sl2 w b pts) (he : pErr l true = 0) (hpe : errL pts = 0) (hn : l.length ≤ 1000000) (hpn : pts.length ≤ 1000000) (hx : tolB x = true) (hy : tolB y = true) :
    Calls Tryz.prog 41 #[.slice a l.length cap, .slice b pts.length cap', .int .i64 x, .int .i64 y] w fun e w' => (∃ v, e = .returned (.tuple #[v, .int .i64 0]) ∧ Irow w' v (idxL (unB l pts x y) pts.length)) ∧ Below w.heap.size w w' := by
  obtain ⟨i0, hi0, hz0, hz1, hz2⟩ := info_parts infoInt1
  have HC := pcheckR_calls l a cap true w hT hn
  have HV := fun (W : World) hP => rcheckP_calls pts b cap' W hP (by omega)
  obtain ⟨hp64, hpe0⟩ := errL_ok hpe
  rw [he] at HC; rw [hpe] at HV
  have HTx := fun W => rtol_calls x W
  have HTy := fun W => rtol_calls y W
  rw [hx] at HTx; rw [hy] at HTy
  have HH := Lib.hid (And.intro hT (And.intro hP (And.intro he (And.intro hpe0 (And.intro HV (And.intro HTx (And.intro HTy (And.intro (tolB_bd hx) (tolB_bd hy)))))))))
  clear hT hP he hpe0 HV HTx HTy hx hy hn hpn hpe
  go_enter Tryz.func41, Tryz.ntmps41
  go_wp2_with fail
  refine HC.mono ?_
  rintro e w1 ⟨rfl, hb1⟩
  clear HC
  go_wp2_with fail
  refine (HH.out.2.2.2.2.1 _ (HH.out.2.1.to hb1)).mono ?_
  rintro e w2 ⟨rfl, hb2⟩
  have HB := Lib.hid (below_trans hb1 hb2); clear hb1 hb2
  go_wp2_with fail
  refine (HH.out.2.2.2.2.2.1 _).mono ?_
  rintro e w3 ⟨rfl, rfl⟩
  go_wp2_with fail
  refine (HH.out.2.2.2.2.2.2.1 _).mono ?_
  rintro e w4 ⟨rfl, rfl⟩
  go_wp2_with fail
  go_loopg [12, 13] pts.length (fun g v iv wr => ∃ k : Nat, k + g = pts.length ∧ iv = .int .i64 k ∧ wr.ownsRow w.heap.size 3 1 v (idxL (unB l pts x y) k).length (vals (idxL (unB l pts x y) k)) ∧ Below w.heap.size w wr)
  case atStart => exact ⟨0, Nat.zero_add _, rfl, own0 _ _ _, HB.out⟩
  case round =>
    obtain ⟨k, hk, rfl, hown, hbel⟩ := hrel
    by_cases hlt : k < pts.length
    · have i1 : ((k : Int) < pts.length) := by omega
      have z1 : (0 : Int) ≤ (k : Int) := by omega
      obtain ⟨bb, o, rfl, hbl, c1, c2⟩ := g2_cells (HH.out.2.1.to hbel) hlt
      have hun := unB_eq l pts x y k
      obtain ⟨pp, hpp⟩ : ∃ pp, g2 pts k = pp := ⟨_, rfl⟩
      have hpl : flatB pp = true := by rw [← hpp]; exact g2_flat HH.out.2.2.2.1 k
      rw [hpp] at c1 c2 hun
      obtain ⟨⟨n, d, j⟩, hb⟩ := nrst_some (p := pp) HH.out.2.2.1
      have hok := nrst_ok (l := l) (c := true) hpl
      have HN := fun W hT => rnear_calls l a cap true pp W hT HH.out.2.2.1 hpl
      rw [hb] at hok HN hun
      have hds := hok.1
      have HL := fun W hT => rloc_calls l a cap pp W hT HH.out.2.2.1 hpl
      have HFx := fun W => rfar37_calls n d x W hds.r.pos (dst_l hds).1 (dst_l hds).2 HH.out.2.2.2.2.2.2.2.1.1 HH.out.2.2.2.2.2.2.2.1.2
      have HFy := fun W => rfar37_calls n d y W hds.r.pos (dst_l hds).1 (dst_l hds).2 HH.out.2.2.2.2.2.2.2.2.1 HH.out.2.2.2.2.2.2.2.2.2
      have hun2 : unB l pts x y k = if 0 < locV l pp then farB x 1 n d else if locV l pp < 0 then farB y 1 n d else false := hun
      clear hun
      have hlc := locV_cases l pp
      generalize locV l pp = lv at HL hlc hun2
      generalize farB x 1 n d = bx at HFx hun2
      generalize farB y 1 n d = bY at HFy hun2
      have e1 : bV (some (n, d, j)) = R n d := rfl
      rw [e1] at HN
      obtain ⟨av, hav⟩ : ∃ v, aV (some (n, d, j)) = v := ⟨_, rfl⟩
      rw [hav] at HN
      obtain ⟨sx, hsx⟩ : ∃ s, R n d = .string s := ⟨_, rfl⟩
      rw [hsx] at HN HFx HFy
      have H := Lib.hid (And.intro hown (And.intro hbel (And.intro HN (And.intro HL (And.intro HFx (And.intro HFy hun2))))))
      clear hown hbel HN HL HFx HFy hun2 hsx hav e1 hds hok hb hpl hpp
      go_wp2_with fail
      refine (H.out.2.2.1 _ (HH.out.1.to H.out.2.1)).mono ?_
      rintro e w5 ⟨rfl, hb5⟩
      have c1 := cell_to c1 hb5
      have c2 := cell_to c2 hb5
      have HD := Lib.hid hb5; clear hb5
      go_wp2_with fail
      refine (H.out.2.2.2.1 _ (HH.out.1.to (H.out.2.1.trans (HD.out.mono H.out.2.1.size)))).mono ?_
      rintro e w6 ⟨rfl, hb6⟩
      have HE := Lib.hid (below_trans HD.out hb6); clear hb6 HD c1 c2
      rcases hlc with rfl | rfl | rfl
      · cases bx with
        | true =>
          go_wp2_with fail
          refine (H.out.2.2.2.2.1 _).mono ?_
          rintro e w7 ⟨rfl, hb7⟩
          have HG := Lib.hid (below_trans HE.out hb7); clear hb7
          have hown := ownsRow_kp H.out.1 (Kp.of HG.out H.out.2.1.size)
          have hb8 := H.out.2.1.trans (HG.out.mono H.out.2.1.size)
          have hsz3 := hb8.size
          have hu := H.out.2.2.2.2.2.2
          simp only [show ((0 : Int) < 1) = True by simp, if_true] at hu
          have hln := idxL_len (unB l pts x y) k
          have HY := Lib.hid (And.intro hb8 hu); clear hb8 hu
          go_wp2_with (at_builtin; refine wpList_append_own _ rfl _ _ 73 rfl w.heap.size 3 i0 (.int .i64 0) 1 8 Tryz.underlying73 hi0 hz0 hz1 hz2 rfl (by decide) _ _ _ rfl (hown.alloc _) ⟨w7.heap.size, 0, none⟩ 1 1 [.int .i64 (k : Int)] rfl rfl ?c1 ?c2 ?c3 ?c4 ?c5 ?_)
          case c1 =>
            intro j u hj
            match j, hj with
            | 0, hj => simp at hj; subst hj; simp [Addr.add]
          case c2 => intro u hu; simp at hu; subst hu; rfl
          case c3 => unfold maxLen; omega
          case c4 => omega
          case c5 => simp; omega
          · intro v' w9 hown' hgrow _
            have hb9 : Below w.heap.size w7 w9 := ((Below.refl w.heap.size w7).alloc hsz3 _).grown hgrow (by simp; omega) (fun k e => (hown.lt k e).1)
            have HW := Lib.hid (And.intro hown' (HY.out.1.trans hb9))
            clear hown hown' hgrow hb9
            go_wp2_with fail
            go_roundg (gk - 1)
            case measure => omega
            case rel =>
              refine ⟨k + 1, by omega, by go_num, ?_, HW.out.2⟩
              rw [idxL_t HY.out.2, vals_snoc, List.length_append]
              exact HW.out.1
        | false =>
          go_wp2_with fail
          refine (H.out.2.2.2.2.1 _).mono ?_
          rintro e w7 ⟨rfl, hb7⟩
          have HG := Lib.hid (below_trans HE.out hb7); clear hb7
          have hsz := HG.out.size
          have HZ := Lib.hid (ownsRow_kp H.out.1 (Kp.of HG.out H.out.2.1.size))
          have HY := Lib.hid (H.out.2.1.trans (HG.out.mono H.out.2.1.size))
          have hu := H.out.2.2.2.2.2.2
          simp only [show ((0 : Int) < 1) = True by simp, if_true] at hu
          go_wp2_with fail
          go_roundg (gk - 1)
          case measure => omega
          case rel =>
            refine ⟨k + 1, by omega, by go_num, ?_, HY.out⟩
            rw [idxL_f hu]
            exact HZ.out
      · have hsz := HE.out.size
        have HZ := Lib.hid (ownsRow_kp H.out.1 (Kp.of HE.out H.out.2.1.size))
        have HY := Lib.hid (H.out.2.1.trans (HE.out.mono H.out.2.1.size))
        have hu := H.out.2.2.2.2.2.2
        simp only [show ((0 : Int) < 0) = False by simp, if_false] at hu
        go_wp2_with fail
        go_roundg (gk - 1)
        case measure => omega
        case rel =>
          refine ⟨k + 1, by omega, by go_num, ?_, HY.out⟩
          rw [idxL_f hu]
          exact HZ.out
      · cases bY with
        | true =>
          go_wp2_with fail
          refine (H.out.2.2.2.2.2.1 _).mono ?_
          rintro e w7 ⟨rfl, hb7⟩
          have HG := Lib.hid (below_trans HE.out hb7); clear hb7
          have hown := ownsRow_kp H.out.1 (Kp.of HG.out H.out.2.1.size)
          have hb8 := H.out.2.1.trans (HG.out.mono H.out.2.1.size)
          have hsz3 := hb8.size
          have hu := H.out.2.2.2.2.2.2
          simp only [show ((0 : Int) < -1) = False by simp, show ((-1 : Int) < 0) = True by simp, if_true, if_false] at hu
          have hln := idxL_len (unB l pts x y) k
          have HY := Lib.hid (And.intro hb8 hu); clear hb8 hu
          go_wp2_with (at_builtin; refine wpList_append_own _ rfl _ _ 73 rfl w.heap.size 3 i0 (.int .i64 0) 1 8 Tryz.underlying73 hi0 hz0 hz1 hz2 rfl (by decide) _ _ _ rfl (hown.alloc _) ⟨w7.heap.size, 0, none⟩ 1 1 [.int .i64 (k : Int)] rfl rfl ?c1 ?c2 ?c3 ?c4 ?c5 ?_)
          case c1 =>
            intro j u hj
            match j, hj with
            | 0, hj => simp at hj; subst hj; simp [Addr.add]
          case c2 => intro u hu; simp at hu; subst hu; rfl
          case c3 => unfold maxLen; omega
          case c4 => omega
          case c5 => simp; omega
          · intro v' w9 hown' hgrow _
            have hb9 : Below w.heap.size w7 w9 := ((Below.refl w.heap.size w7).alloc hsz3 _).grown hgrow (by simp; omega) (fun k e => (hown.lt k e).1)
            have HW := Lib.hid (And.intro hown' (HY.out.1.trans hb9))
            clear hown hown' hgrow hb9
            go_wp2_with fail
            go_roundg (gk - 1)
            case measure => omega
            case rel =>
              refine ⟨k + 1, by omega, by go_num, ?_, HW.out.2⟩
              rw [idxL_t HY.out.2, vals_snoc, List.length_append]
              exact HW.out.1
        | false =>
          go_wp2_with fail
          refine (H.out.2.2.2.2.2.1 _).mono ?_
          rintro e w7 ⟨rfl, hb7⟩
          have HG := Lib.hid (below_trans HE.out hb7); clear hb7
          have hsz := HG.out.size
          have HZ := Lib.hid (ownsRow_kp H.out.1 (Kp.of HG.out H.out.2.1.size))
          have HY := Lib.hid (H.out.2.1.trans (HG.out.mono H.out.2.1.size))
          have hu := H.out.2.2.2.2.2.2
          simp only [show ((0 : Int) < -1) = False by simp, show ((-1 : Int) < 0) = True by simp, if_true, if_false] at hu
          go_wp2_with fail
          go_roundg (gk - 1)
          case measure => omega
          case rel =>
            refine ⟨k + 1, by omega, by go_num, ?_, HY.out⟩
            rw [idxL_f hu]
            exact HZ.out
    · have hke : k = pts.length := by omega
      subst hke
      go_wp2_with fail
      go_ret2
      exact ⟨⟨_, rfl, irow_of hown⟩, hbel⟩

set_option maxRecDepth 100000 in
set_option maxHeartbeats 3200000 in
theorem rUnequal_calls (l pts : List P2) (a b : Option Addr) (cap cap' : Nat) (x y : Int) (w : World) (hT : Sl2 w a l) (hP : Sl2 w b pts) (hn : l.length ≤ 1000000) (hpn : pts.length ≤ 1000000) :
    Calls Tryz.prog 41 #[.slice a l.length cap, .slice b pts.length cap', .int .i64 x, .int .i64 y] w fun e w' => (∃ v, e = .returned (.tuple #[v, .int .i64 (unE l pts x y)]) ∧ Irow w' v (unL l pts x y)) ∧ Below w.heap.size w w' := by
  have HC := pcheckR_calls l a cap true w hT hn
  have HV := fun (W : World) hP => rcheckP_calls pts b cap' W hP (by omega)
  by_cases h1 : pErr l true = 0
  · by_cases h2 : errL pts = 0
    · have h3 : unE l pts x y = tolE [x, y] := by unfold unE; rw [if_pos h1, if_pos h2]
      by_cases ht : tolB x = true ∧ tolB y = true
      · rw [tolE_2b, if_pos ht] at h3
        have hL : unL l pts x y = idxL (unB l pts x y) pts.length := by unfold unL; rw [if_pos h3]
        rw [h3, hL]
        exact runq_calls l pts a b cap cap' x y w hT hP h1 h2 hn hpn ht.1 ht.2
      · rw [tolE_2b, if_neg ht] at h3
        have hL : unL l pts x y = [] := by unfold unL; rw [if_neg (by rw [h3]; decide)]
        rw [h3, hL]
        rw [h1] at HC; rw [h2] at HV
        have HTx := fun W => rtol_calls x W
        have HTy := fun W => rtol_calls y W
        cases hx : tolB x with
        | false =>
          rw [hx] at HTx
          have H := Lib.hid (And.intro hP (And.intro HV (And.intro HTx HTy)))
          clear hT hP h1 h2 h3 hL HV HTx HTy ht hn hpn hx
          go_enter Tryz.func41, Tryz.ntmps41
          go_wp2_with fail
          refine HC.mono ?_
          rintro e w1 ⟨rfl, hb1⟩
          clear HC
          go_wp2_with fail
          refine (H.out.2.1 _ (H.out.1.to hb1)).mono ?_
          rintro e w2 ⟨rfl, hb2⟩
          go_wp2_with fail
          refine (H.out.2.2.1 _).mono ?_
          rintro e w3 ⟨rfl, rfl⟩
          go_wp2_with fail
          go_ret2
          exact ⟨⟨_, rfl, Irow.nil _⟩, below_trans hb1 hb2⟩
        | true =>
          have hy : tolB y = false := by
            cases h : tolB y with
            | true => exact absurd ⟨hx, h⟩ ht
            | false => rfl
          rw [hx] at HTx
          rw [hy] at HTy
          have H := Lib.hid (And.intro hP (And.intro HV (And.intro HTx HTy)))
          clear hT hP h1 h2 h3 hL HV HTx HTy ht hn hpn hx hy
          go_enter Tryz.func41, Tryz.ntmps41
          go_wp2_with fail
          refine HC.mono ?_
          rintro e w1 ⟨rfl, hb1⟩
          clear HC
          go_wp2_with fail
          refine (H.out.2.1 _ (H.out.1.to hb1)).mono ?_
          rintro e w2 ⟨rfl, hb2⟩
          go_wp2_with fail
          refine (H.out.2.2.1 _).mono ?_
          rintro e w3 ⟨rfl, rfl⟩
          go_wp2_with fail
          refine (H.out.2.2.2 _).mono ?_
          rintro e w4 ⟨rfl, rfl⟩
          go_wp2_with fail
          go_ret2
          exact ⟨⟨_, rfl, Irow.nil _⟩, below_trans hb1 hb2⟩
    · have h3 : unE l pts x y = errL pts := by unfold unE; rw [if_pos h1, if_neg h2]
      have hL : unL l pts x y = [] := by unfold unL; rw [if_neg (by rw [h3]; exact h2)]
      rw [h3, hL]
      rw [h1] at HC
      generalize errL pts = er at HV h2 ⊢
      have H := Lib.hid (And.intro hP HV)
      clear hT hP h1 h3 hL HV hn hpn
      go_enter Tryz.func41, Tryz.ntmps41
      go_wp2_with fail
      refine HC.mono ?_
      rintro e w1 ⟨rfl, hb1⟩
      clear HC
      go_wp2_with fail
      refine (H.out.2 _ (H.out.1.to hb1)).mono ?_
      rintro e w2 ⟨rfl, hb2⟩
      go_wp2_with fail
      go_ret2
      exact ⟨⟨_, rfl, Irow.nil _⟩, below_trans hb1 hb2⟩
  · have h3 : unE l pts x y = pErr l true := by unfold unE; rw [if_neg h1]
    have hL : unL l pts x y = [] := by unfold unL; rw [if_neg (by rw [h3]; exact h1)]
    rw [h3, hL]
    generalize pErr l true = er at HC h1 ⊢
    clear hT hP h3 hL HV hn hpn
    go_enter Tryz.func41, Tryz.ntmps41
    go_wp2_with fail
    refine HC.mono ?_
    rintro e w1 ⟨rfl, hb1⟩
    clear HC
    go_wp2_with fail
    go_ret2
    exact ⟨⟨_, rfl, Irow.nil _⟩, hb1⟩

set_option maxHeartbeats 1600000 in
theorem sames_calls (v u : Value) (L : List Nat) (w : World) (h1 : Irow w v L) (h2 : Irow w u L) (hL : L.length ≤ 1000) :
    Calls Tryz.prog 42 #[v, u] w fun e w' => e = .returned (.bool true) ∧ Below w.heap.size w w' := by
  obtain ⟨a1, c1, rfl, k1⟩ := h1
  obtain ⟨a2, c2, rfl, k2⟩ := h2
  obtain ⟨n, hn⟩ : ∃ n, L.length = n := ⟨_, rfl⟩
  have HC := Lib.hid (And.intro k1 (And.intro k2 hn)); clear k1 k2
  rw [hn]
  rw [hn] at hL
  clear hn
  go_enter Tryz.func42, Tryz.ntmps42
  go_wp2_with fail
  go_loopg [5] n (fun g v wr => ∃ i : Nat, i + g = n ∧ v = .int .i64 i ∧ Below w.heap.size w wr)
  case atStart => exact ⟨0, Nat.zero_add _, rfl, Below.refl _ _⟩
  case round =>
    obtain ⟨i, hi, rfl, hbel⟩ := hrel
    by_cases hlt : i < n
    · have hlL : i < L.length := by rw [HC.out.2.2]; exact hlt
      obtain ⟨b1, rfl, -, k1⟩ := HC.out.1 i hlL
      obtain ⟨b2, rfl, -, k2⟩ := HC.out.2.1 i hlL
      have r1 := cell_regrown (cell_to k1 hbel)
      have r2 := cell_regrown (cell_to k2 hbel)
      have HB := Lib.hid hbel
      clear k1 k2 hbel
      have i1 : ((i : Int) < (n : Int)) := by omega
      have z1 : (0 : Int) ≤ (i : Int) := by omega
      have n1 : n ≠ 0 := by omega
      obtain ⟨s, hs⟩ : ∃ s, (L[i] : Int) = s := ⟨_, rfl⟩
      rw [hs] at r1 r2
      clear hs
      go_wp2_with fail
      refine wp_region_quiet_below follows (by kernel_rfl) ?_
      repeat (quiet_step (fail))
      refine wpQuiet_nil ?_
      intro _ hw'
      obtain ⟨⟨dq, osq⟩, rfl⟩ := hw'
      go_wp2_with fail
      go_roundg (n - i - 1)
      case measure => omega
      case rel => exact ⟨i + 1, by omega, by go_num, below_trans HB.out (below_regrown wr dq osq)⟩
    · go_wp2_with fail
      go_ret
      exact ⟨rfl, hbel⟩

end Go.Proofs.YtgdlfjofefhdoaaGreatDoor
