/- The reference's Outside, Worst. -/
import Derived.Test.YtgdlfjofefhdoaaGreatDoorSegF
import Derived.Test.YtgdlfjofefhdoaaGreatDoorProfN
namespace Go.Proofs.YtgdlfjofefhdoaaGreatDoor
open Go.RowKit Go.Sort Go.Lib Go.Shelf Mb

attribute [local go_sem] Oper.semAt_some

set_option maxRecDepth 100000 in
set_option maxHeartbeats 8000000 in
theorem routq_calls (l pts : List P2) (a b : Option Addr) (cap cap' : Nat) (c : Bool) (t : Int) (w : World) (hT : Sl2 w a l) (hP : Sl2 w b pts) (he : pErr l c = 0) (hpe : errL pts = 0) (hn : l.length ≤ 1000000) (hpn : pts.length ≤ 1000000) (ht : tolB t = true) :
    Calls Tryz.prog 44 #[.slice a l.length cap, .bool c, .slice b pts.length cap', .int .i64 t] w fun e w' => (∃ v, e = .returned (.tuple #[v, .int .i64 0]) ∧ Irow w' v (idxL (btO l c pts t 2) pts.length)) ∧ Below w.heap.size w w' := by
  obtain ⟨i0, hi0, hz0, hz1, hz2⟩ := info_parts infoInt1
  have HC := pcheckR_calls l a cap c w hT hn
  have HV := fun (W : World) hP => rcheckP_calls pts b cap' W hP (by omega)
  obtain ⟨hp64, hpe0⟩ := errL_ok hpe
  rw [he] at HC; rw [hpe] at HV
  have HTx := fun W => rtol_calls t W
  rw [ht] at HTx
  have HH := Lib.hid (And.intro hT (And.intro hP (And.intro he (And.intro hpe0 (And.intro HV (And.intro HTx (tolB_bd ht)))))))
  clear hT hP he hpe0 HV HTx ht hn hpn hpe
  go_enter Tryz.func44, Tryz.ntmps44
  go_wp2_with fail
  refine HC.mono ?_
  rintro e w1 ⟨rfl, hb1⟩
  clear HC
  go_wp2_with fail
  refine (HH.out.2.2.2.2.1 _ (HH.out.2.1.to hb1)).mono ?_
  rintro e w2 ⟨rfl, hb2⟩
  have HB := Lib.hid (below_trans hb1 hb2); clear hb1 hb2
  go_wp2_with fail
  refine (HH.out.2.2.2.2.2.1 _).mono ?_
  rintro e w3 ⟨rfl, rfl⟩
  go_wp2_with fail
  go_loopg [12, 13] pts.length (fun g v iv wr => ∃ k : Nat, k + g = pts.length ∧ iv = .int .i64 k ∧ wr.ownsRow w.heap.size 3 1 v (idxL (btO l c pts t 2) k).length (vals (idxL (btO l c pts t 2) k)) ∧ Below w.heap.size w wr)
  case atStart => exact ⟨0, Nat.zero_add _, rfl, own0 _ _ _, HB.out⟩
  case round =>
    obtain ⟨k, hk, rfl, hown, hbel⟩ := hrel
    by_cases hlt : k < pts.length
    · have i1 : ((k : Int) < pts.length) := by omega
      have z1 : (0 : Int) ≤ (k : Int) := by omega
      obtain ⟨bb, o, rfl, hbl, c1, c2⟩ := g2_cells (HH.out.2.1.to hbel) hlt
      have hun : btO l c pts t 2 k = ndB t 2 (nrst l c (g2 pts k)) := by unfold btO; rw [btB_eq (by omega)]
      obtain ⟨pp, hpp⟩ : ∃ pp, g2 pts k = pp := ⟨_, rfl⟩
      have hpl : flatB pp = true := by rw [← hpp]; exact g2_flat HH.out.2.2.2.1 k
      rw [hpp] at c1 c2 hun
      have HN := fun W hT => rbeyond_calls l a cap c pp t W hT HH.out.2.2.1 hpl HH.out.2.2.2.2.2.2.1 HH.out.2.2.2.2.2.2.2
      generalize ndB t 2 (nrst l c pp) = nb at HN hun
      have H := Lib.hid (And.intro hown (And.intro hbel (And.intro HN hun)))
      clear hown hbel HN hun hpl hpp
      cases nb with
      | false =>
        go_wp2_with fail
        refine (H.out.2.2.1 _ (HH.out.1.to H.out.2.1)).mono ?_
        rintro e w5 ⟨rfl, hb5⟩
        have HZ := Lib.hid (And.intro (ownsRow_kp H.out.1 (Kp.of hb5 H.out.2.1.size)) (H.out.2.1.trans (hb5.mono H.out.2.1.size))); clear hb5
        go_wp2_with fail
        go_roundg (gk - 1)
        case measure => omega
        case rel =>
          refine ⟨k + 1, by omega, by go_num, ?_, HZ.out.2⟩
          rw [idxL_f H.out.2.2.2]
          exact HZ.out.1
      | true =>
        go_wp2_with fail
        refine (H.out.2.2.1 _ (HH.out.1.to H.out.2.1)).mono ?_
        rintro e w5 ⟨rfl, hb5⟩
        have hown := ownsRow_kp H.out.1 (Kp.of hb5 H.out.2.1.size)
        have hb8 := H.out.2.1.trans (hb5.mono H.out.2.1.size)
        have hsz3 := hb8.size
        have hln := idxL_len (btO l c pts t 2) k
        have HY := Lib.hid hb8; clear hb8 hb5 c1 c2
        go_wp2_with (at_builtin; refine wpList_append_own _ rfl _ _ 73 rfl w.heap.size 3 i0 (.int .i64 0) 1 8 Tryz.underlying73 hi0 hz0 hz1 hz2 rfl (by decide) _ _ _ rfl (hown.alloc _) ⟨w5.heap.size, 0, none⟩ 1 1 [.int .i64 (k : Int)] rfl rfl ?c1 ?c2 ?c3 ?c4 ?c5 ?_)
        case c1 =>
          intro j u hj
          match j, hj with
          | 0, hj => simp at hj; subst hj; simp [Addr.add]
        case c2 => intro u hu; simp at hu; subst hu; rfl
        case c3 => unfold maxLen; omega
        case c4 => omega
        case c5 => simp; omega
        · intro v' w9 hown' hgrow _
          have hb9 : Below w.heap.size w5 w9 := ((Below.refl w.heap.size w5).alloc hsz3 _).grown hgrow (by simp; omega) (fun k e => (hown.lt k e).1)
          have HW := Lib.hid (And.intro hown' (HY.out.trans hb9))
          clear hown hown' hgrow hb9
          go_wp2_with fail
          go_roundg (gk - 1)
          case measure => omega
          case rel =>
            refine ⟨k + 1, by omega, by go_num, ?_, HW.out.2⟩
            rw [idxL_t H.out.2.2.2, vals_snoc, List.length_append]
            exact HW.out.1
    · have hke : k = pts.length := by omega
      subst hke
      go_wp2_with fail
      go_ret2
      exact ⟨⟨_, rfl, irow_of hown⟩, hbel⟩

set_option maxRecDepth 100000 in
set_option maxHeartbeats 3200000 in
theorem rOutside_calls (l pts : List P2) (a b : Option Addr) (cap cap' : Nat) (c : Bool) (t : Int) (w : World) (hT : Sl2 w a l) (hP : Sl2 w b pts) (hn : l.length ≤ 1000000) (hpn : pts.length ≤ 1000000) :
    Calls Tryz.prog 44 #[.slice a l.length cap, .bool c, .slice b pts.length cap', .int .i64 t] w fun e w' => (∃ v, e = .returned (.tuple #[v, .int .i64 (outE l c pts t)]) ∧ Irow w' v (outL l c pts t)) ∧ Below w.heap.size w w' := by
  have HC := pcheckR_calls l a cap c w hT hn
  have HV := fun (W : World) hP => rcheckP_calls pts b cap' W hP (by omega)
  by_cases h1 : pErr l c = 0
  · by_cases h2 : errL pts = 0
    · have h3 : outE l c pts t = tolE [t] := by unfold outE; rw [if_pos h1, if_pos h2]
      have h5 : tolE [t] = if tolB t = true then 0 else 2 := by
        unfold tolE
        cases h : tolB t <;> simp [h]
      cases ht : tolB t with
      | true =>
        rw [h5, if_pos ht] at h3
        have hL : outL l c pts t = idxL (btO l c pts t 2) pts.length := by unfold outL; rw [if_pos h3]
        rw [h3, hL]
        exact routq_calls l pts a b cap cap' c t w hT hP h1 h2 hn hpn ht
      | false =>
        rw [h5, if_neg (by simp [ht])] at h3
        have hL : outL l c pts t = [] := by unfold outL; rw [if_neg (by rw [h3]; decide)]
        rw [h3, hL]
        rw [h1] at HC; rw [h2] at HV
        have HTx := fun W => rtol_calls t W
        rw [ht] at HTx
        have H := Lib.hid (And.intro hP (And.intro HV HTx))
        clear hT hP h1 h2 h3 h5 hL HV HTx ht hn hpn
        go_enter Tryz.func44, Tryz.ntmps44
        go_wp2_with fail
        refine HC.mono ?_
        rintro e w1 ⟨rfl, hb1⟩
        clear HC
        go_wp2_with fail
        refine (H.out.2.1 _ (H.out.1.to hb1)).mono ?_
        rintro e w2 ⟨rfl, hb2⟩
        go_wp2_with fail
        refine (H.out.2.2 _).mono ?_
        rintro e w3 ⟨rfl, rfl⟩
        go_wp2_with fail
        go_ret2
        exact ⟨⟨_, rfl, Irow.nil _⟩, below_trans hb1 hb2⟩
    · have h3 : outE l c pts t = errL pts := by unfold outE; rw [if_pos h1, if_neg h2]
      have hL : outL l c pts t = [] := by unfold outL; rw [if_neg (by rw [h3]; exact h2)]
      rw [h3, hL]
      rw [h1] at HC
      generalize errL pts = er at HV h2 ⊢
      have H := Lib.hid (And.intro hP HV)
      clear hT hP h1 h3 hL HV hn hpn
      go_enter Tryz.func44, Tryz.ntmps44
      go_wp2_with fail
      refine HC.mono ?_
      rintro e w1 ⟨rfl, hb1⟩
      clear HC
      go_wp2_with fail
      refine (H.out.2 _ (H.out.1.to hb1)).mono ?_
      rintro e w2 ⟨rfl, hb2⟩
      go_wp2_with fail
      go_ret2
      exact ⟨⟨_, rfl, Irow.nil _⟩, below_trans hb1 hb2⟩
  · have h3 : outE l c pts t = pErr l c := by unfold outE; rw [if_neg h1]
    have hL : outL l c pts t = [] := by unfold outL; rw [if_neg (by rw [h3]; exact h1)]
    rw [h3, hL]
    generalize pErr l c = er at HC h1 ⊢
    clear hT hP h3 hL HV hn hpn
    go_enter Tryz.func44, Tryz.ntmps44
    go_wp2_with fail
    refine HC.mono ?_
    rintro e w1 ⟨rfl, hb1⟩
    clear HC
    go_wp2_with fail
    go_ret2
    exact ⟨⟨_, rfl, Irow.nil _⟩, hb1⟩

end Go.Proofs.YtgdlfjofefhdoaaGreatDoor
