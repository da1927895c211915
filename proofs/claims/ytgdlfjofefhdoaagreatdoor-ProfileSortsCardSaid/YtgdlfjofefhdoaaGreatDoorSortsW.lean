/- The walk of ProfileSorts: it answers true. -/
import Derived.Test.YtgdlfjofefhdoaaGreatDoorSegI
import Derived.Test.YtgdlfjofefhdoaaGreatDoorAw37
namespace Go.Proofs.YtgdlfjofefhdoaaGreatDoor
open Go.RowKit Go.Sort Go.Lib Go.Shelf Mb

attribute [local go_sem] Oper.semAt_some

theorem woV_str (l : List P2) (c : Bool) (pts : List P2) : ∃ s, woV l c pts = .string s := by
  unfold woV
  split
  · exact ⟨_, rfl⟩
  · exact ⟨_, rfl⟩
theorem few_128 {n : Nat} (h : fewP n = true) : n ≤ 128 := by
  simp only [fewP, Bool.or_eq_true, Bool.and_eq_true, decide_eq_true_eq] at h
  omega
theorem outL_len (l : List P2) (c : Bool) (pts : List P2) (t : Int) (h : pts.length ≤ 128) : (outL l c pts t).length ≤ 1000 := by
  unfold outL
  split
  · have := idxL_len (btO l c pts t 2) pts.length; omega
  · simp

set_option maxRecDepth 100000 in
set_option maxHeartbeats 8000000 in
theorem sorts_calls (l pts : List P2) (a b : Option Addr) (cap cap' : Nat) (c : Bool) (t : Int) (w : World) (hg : Good w) (hT : Sl2 w a l) (hP : Sl2 w b pts) (hn : l.length ≤ maxLen) (hpn : pts.length ≤ maxLen) :
    Calls Tryz.prog 9 #[.agg #[.slice a l.length cap, .bool c], .slice b pts.length cap', .int .i64 t] w fun e w' => e = .returned (.bool true) ∧ Below w.heap.size w w' := by
  have hn' : l.length ≤ 9223372036854775807 := Nat.le_trans hn (by decide)
  have hpn' : pts.length ≤ 9223372036854775807 := Nat.le_trans hpn (by decide)
  have hal := alloc_below w (.cells #[.slice a l.length cap, .bool c] 60)
  have g0 := blk_new w #[.slice a l.length cap, .bool c] 60
  have HF := fun w => few37_calls a l.length cap w hn'
  have HG := fun w => few37_calls b pts.length cap' w hpn'
  cases hf : fewP l.length with
  | false =>
    rw [hf] at HF
    have H := Lib.hid (And.intro hg (And.intro hal HF))
    clear hf hg hT hP hn hpn hal HF HG g0
    go_enter Tryz.func9, Tryz.ntmps9
    go_wp2_with fail
    refine (H.out.2.2 _).mono ?_
    rintro e w1 ⟨rfl, hb1⟩
    have hb2 := below_trans H.out.2.1 hb1
    go_wp2_with fail
    refine (awake37_calls _ (H.out.1.to hb2)).mono ?_
    rintro e w2 ⟨rfl, hb3⟩
    go_wp2_with fail
    go_ret
    exact ⟨rfl, below_trans hb2 hb3⟩
  | true =>
    rw [hf] at HF
    cases hf2 : fewP pts.length with
    | false =>
      rw [hf2] at HG
      have H := Lib.hid (And.intro hg (And.intro hal (And.intro HF HG)))
      clear hf hf2 hg hT hP hn hpn hal HF HG g0
      go_enter Tryz.func9, Tryz.ntmps9
      go_wp2_with fail
      refine (H.out.2.2.1 _).mono ?_
      rintro e w1 ⟨rfl, hb1⟩
      go_wp2_with fail
      refine (H.out.2.2.2 _).mono ?_
      rintro e w2 ⟨rfl, hb2⟩
      have hb3 := below_trans (below_trans H.out.2.1 hb1) hb2
      go_wp2_with fail
      refine (awake37_calls _ (H.out.1.to hb3)).mono ?_
      rintro e w3 ⟨rfl, hb4⟩
      go_wp2_with fail
      go_ret
      exact ⟨rfl, below_trans hb3 hb4⟩
    | true =>
      rw [hf2] at HG
      have hl := few_128 hf
      have hp := few_128 hf2
      have H1 := fun (W : World) hg hT hP => pOutside_calls l pts a b cap cap' c t W hg hT hP (by omega) (by omega)
      have H2 := fun (W : World) hT hP => rOutside_calls l pts a b cap cap' c t W hT hP (by omega) (by omega)
      have H3 := fun (W : World) hg hT hP => pWorst_calls l pts a b cap cap' c W hg hT hP (by omega) (by omega)
      have H4 := fun (W : World) hT hP => rWorst_calls l pts a b cap cap' c W hT hP (by omega) (by omega)
      have hlen := outL_len l c pts t hp
      obtain ⟨sv, hsv⟩ := woV_str l c pts
      rw [hsv] at H3 H4
      generalize outE l c pts t = e1 at H1 H2
      generalize outL l c pts t = L at H1 H2 hlen
      generalize woI l c pts = wi at H3 H4
      generalize woE l c pts = we at H3 H4
      have H := Lib.hid (And.intro hg (And.intro hT (And.intro hP (And.intro hal (And.intro g0 (And.intro HF (And.intro HG (And.intro H1 (And.intro H2 (And.intro H3 (And.intro H4 hlen)))))))))))
      clear hf hf2 hg hT hP hn hpn hal HF HG g0 H1 H2 H3 H4 hlen hsv hl hp
      go_enter Tryz.func9, Tryz.ntmps9
      go_wp2_with fail
      refine (H.out.2.2.2.2.2.1 _).mono ?_
      rintro e w1 ⟨rfl, hb1⟩
      go_wp2_with fail
      refine (H.out.2.2.2.2.2.2.1 _).mono ?_
      rintro e w2 ⟨rfl, hb2⟩
      have hb := below_trans hb1 hb2
      have hA := below_trans H.out.2.2.2.1 hb
      have hX := H.out.2.2.2.2.1.to hb
      have x0 := hX.c 0 _ rfl
      have x1 := hX.c 1 _ rfl
      have HA := Lib.hid (And.intro hA hX); clear hA hX hb hb1 hb2
      go_wp2_with fail
      refine (H.out.2.2.2.2.2.2.2.1 _ (H.out.1.to HA.out.1) (H.out.2.1.to HA.out.1) (H.out.2.2.1.to HA.out.1)).mono ?_
      rintro e w3 ⟨⟨v, rfl, hv⟩, hb⟩
      clear x0 x1
      have hA := below_trans HA.out.1 hb
      have hX := HA.out.2.to hb
      have x0 := hX.c 0 _ rfl
      have x1 := hX.c 1 _ rfl
      have HB := Lib.hid (And.intro hA (And.intro hX hv)); clear hA hX hb hv HA
      go_wp2_with fail
      refine (H.out.2.2.2.2.2.2.2.2.1 _ (H.out.2.1.to HB.out.1) (H.out.2.2.1.to HB.out.1)).mono ?_
      rintro e w4 ⟨⟨u, rfl, hu⟩, hb⟩
      clear x0 x1
      have hA := below_trans HB.out.1 hb
      have hX := HB.out.2.1.to hb
      have x0 := hX.c 0 _ rfl
      have x1 := hX.c 1 _ rfl
      have HC := Lib.hid (And.intro hA (And.intro hX (And.intro (HB.out.2.2.to hb) hu))); clear hA hX hb hu HB
      go_wp2_with fail
      refine (H.out.2.2.2.2.2.2.2.2.2.1 _ (H.out.1.to HC.out.1) (H.out.2.1.to HC.out.1) (H.out.2.2.1.to HC.out.1)).mono ?_
      rintro e w5 ⟨rfl, hb⟩
      clear x0 x1
      have hA := below_trans HC.out.1 hb
      have hX := HC.out.2.1.to hb
      have x0 := hX.c 0 _ rfl
      have x1 := hX.c 1 _ rfl
      have HD := Lib.hid (And.intro hA (And.intro hX (And.intro (HC.out.2.2.1.to hb) (HC.out.2.2.2.to hb)))); clear hA hX hb HC
      go_wp2_with fail
      refine (H.out.2.2.2.2.2.2.2.2.2.2.1 _ (H.out.2.1.to HD.out.1) (H.out.2.2.1.to HD.out.1)).mono ?_
      rintro e w6 ⟨rfl, hb⟩
      clear x0 x1
      have HE := Lib.hid (And.intro (below_trans HD.out.1 hb) (And.intro (HD.out.2.2.1.to hb) (HD.out.2.2.2.to hb))); clear hb HD
      go_wp2_with fail
      refine (awake37_calls _ (H.out.1.to HE.out.1)).mono ?_
      rintro e w7 ⟨rfl, hb⟩
      have HW := Lib.hid (And.intro (below_trans HE.out.1 hb) (And.intro (HE.out.2.1.to hb) (HE.out.2.2.to hb))); clear hb HE
      go_wp2_with fail
      refine (sames_calls _ _ L _ HW.out.2.1 HW.out.2.2 H.out.2.2.2.2.2.2.2.2.2.2.2).mono ?_
      rintro e w8 ⟨rfl, hb7⟩
      go_wp2_with fail
      go_ret
      exact ⟨rfl, below_trans HW.out.1 hb7⟩

end Go.Proofs.YtgdlfjofefhdoaaGreatDoor
