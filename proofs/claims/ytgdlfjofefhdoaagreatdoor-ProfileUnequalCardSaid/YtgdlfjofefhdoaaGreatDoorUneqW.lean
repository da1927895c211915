/- The walk of ProfileUnequal: it answers true. -/
import Derived.Test.YtgdlfjofefhdoaaGreatDoorAw37
import Derived.Test.YtgdlfjofefhdoaaGreatDoorSegF
namespace Go.Proofs.YtgdlfjofefhdoaaGreatDoor
open Go.RowKit Go.Sort Go.Lib Go.Shelf Mb

attribute [local go_sem] Oper.semAt_some

theorem few_le {n : Nat} (h : fewP n = true) : n ≤ 128 := by
  simp only [fewP, Bool.or_eq_true, Bool.and_eq_true, decide_eq_true_eq] at h
  omega

theorem unL_len (l pts : List P2) (x y : Int) (h : pts.length ≤ 128) : (unL l pts x y).length ≤ 1000 := by
  unfold unL
  split
  · have := idxL_len (unB l pts x y) pts.length; omega
  · simp

set_option maxRecDepth 100000 in
set_option maxHeartbeats 3200000 in
theorem unequal_calls (l pts : List P2) (a b : Option Addr) (cap cap' : Nat) (t : P2) (w : World) (hg : Good w) (hT : Sl2 w a l) (hP : Sl2 w b pts) (hn : l.length ≤ maxLen) (hpn : pts.length ≤ maxLen) :
    Calls Tryz.prog 8 #[.slice a l.length cap, .slice b pts.length cap', V t] w fun e w' => e = .returned (.bool true) ∧ Below w.heap.size w w' := by
  have hn' : l.length ≤ 9223372036854775807 := Nat.le_trans hn (by decide)
  have hpn' : pts.length ≤ 9223372036854775807 := Nat.le_trans hpn (by decide)
  have hal := alloc_below w (.cells #[.int .i64 t.x, .int .i64 t.y] 72)
  have hx := blk_new w #[.int .i64 t.x, .int .i64 t.y] 72
  have HF := fun w => few37_calls a l.length cap w hn'
  have HG := fun w => few37_calls b pts.length cap' w hpn'
  cases hf : fewP l.length with
  | false =>
    rw [hf] at HF
    have H := Lib.hid (And.intro hg (And.intro hal HF))
    clear hf hg hT hP hn hpn hx hal HF HG
    go_enter Tryz.func8, Tryz.ntmps8
    go_wp2_with fail
    refine (H.out.2.2 _).mono ?_
    rintro e w1 ⟨rfl, hb1⟩
    have hb2 := below_trans H.out.2.1 hb1
    go_wp2_with fail
    refine (awake37_calls _ (H.out.1.to hb2)).mono ?_
    rintro e w2 ⟨rfl, hb3⟩
    go_wp2_with fail
    go_ret
    exact ⟨rfl, below_trans hb2 hb3⟩
  | true =>
    rw [hf] at HF
    cases hf2 : fewP pts.length with
    | false =>
      rw [hf2] at HG
      have H := Lib.hid (And.intro hg (And.intro hal (And.intro HF HG)))
      clear hf hf2 hg hT hP hn hpn hx hal HF HG
      go_enter Tryz.func8, Tryz.ntmps8
      go_wp2_with fail
      refine (H.out.2.2.1 _).mono ?_
      rintro e w1 ⟨rfl, hb1⟩
      go_wp2_with fail
      refine (H.out.2.2.2 _).mono ?_
      rintro e w2 ⟨rfl, hb2⟩
      have hb3 := below_trans (below_trans H.out.2.1 hb1) hb2
      go_wp2_with fail
      refine (awake37_calls _ (H.out.1.to hb3)).mono ?_
      rintro e w3 ⟨rfl, hb4⟩
      go_wp2_with fail
      go_ret
      exact ⟨rfl, below_trans hb3 hb4⟩
    | true =>
      rw [hf2] at HG
      have hl := few_le hf
      have hp := few_le hf2
      have HU := fun (W : World) hg hT hP => pUnequal_calls l pts a b cap cap' t.x t.y W hg hT hP (by omega) (by omega)
      have HR := fun (W : World) hT hP => rUnequal_calls l pts a b cap cap' t.x t.y W hT hP (by omega) (by omega)
      have hlen := unL_len l pts t.x t.y hp
      generalize unE l pts t.x t.y = er at HU HR
      generalize unL l pts t.x t.y = L at HU HR hlen
      have H := Lib.hid (And.intro hg (And.intro hT (And.intro hP (And.intro hal (And.intro hx (And.intro HF (And.intro HG (And.intro HU (And.intro HR hlen)))))))))
      clear hf hf2 hg hT hP hn hpn hx hal HF HG HU HR hlen
      go_enter Tryz.func8, Tryz.ntmps8
      go_wp2_with fail
      refine (H.out.2.2.2.2.2.1 _).mono ?_
      rintro e w1 ⟨rfl, hb1⟩
      go_wp2_with fail
      refine (H.out.2.2.2.2.2.2.1 _).mono ?_
      rintro e w2 ⟨rfl, hb2⟩
      have hb3 := below_trans hb1 hb2
      have g1 := H.out.2.2.2.2.1.to hb3
      have c1 := g1.c 0 _ rfl
      have c2 := g1.c 1 _ rfl
      have HQ := Lib.hid (And.intro (below_trans H.out.2.2.2.1 hb3) g1); clear hb1 hb2 hb3 g1
      go_wp2_with fail
      refine (H.out.2.2.2.2.2.2.2.1 _ (H.out.1.to HQ.out.1) (H.out.2.1.to HQ.out.1) (H.out.2.2.1.to HQ.out.1)).mono ?_
      rintro e w3 ⟨⟨v, rfl, hv⟩, hb4⟩
      clear c1 c2
      have g1 := HQ.out.2.to hb4
      have c1 := g1.c 0 _ rfl
      have c2 := g1.c 1 _ rfl
      have HS := Lib.hid (And.intro (below_trans HQ.out.1 hb4) hv); clear hb4 g1 hv
      go_wp2_with fail
      refine (H.out.2.2.2.2.2.2.2.2.1 _ (H.out.2.1.to HS.out.1) (H.out.2.2.1.to HS.out.1)).mono ?_
      rintro e w4 ⟨⟨u, rfl, hu⟩, hb5⟩
      clear c1 c2
      have HV := Lib.hid (And.intro (below_trans HS.out.1 hb5) (And.intro (HS.out.2.to hb5) hu)); clear hb5 hu
      go_wp2_with fail
      refine (awake37_calls _ (H.out.1.to HV.out.1)).mono ?_
      rintro e w5 ⟨rfl, hb6⟩
      have HW := Lib.hid (And.intro (below_trans HV.out.1 hb6) (And.intro (HV.out.2.1.to hb6) (HV.out.2.2.to hb6))); clear hb6
      go_wp2_with fail
      refine (sames_calls _ _ L _ HW.out.2.1 HW.out.2.2 H.out.2.2.2.2.2.2.2.2.2).mono ?_
      rintro e w6 ⟨rfl, hb7⟩
      go_wp2_with fail
      go_ret
      exact ⟨rfl, below_trans HW.out.1 hb7⟩

end Go.Proofs.YtgdlfjofefhdoaaGreatDoor
