/- The walk of ProfileSides: it answers true. -/
import Derived.Test.YtgdlfjofefhdoaaGreatDoorAw37
import Derived.Test.YtgdlfjofefhdoaaGreatDoorSegD
namespace Go.Proofs.YtgdlfjofefhdoaaGreatDoor
open Go.RowKit Go.Sort Go.Lib Go.Shelf Mb

attribute [local go_sem] Oper.semAt_some

theorem i64_nErr (l : List P2) (c : Bool) (p : P2) : 0 ≤ nErr l c p ∧ nErr l c p ≤ 100 := by
  unfold nErr pErr errL errOf twE
  repeat' split
  all_goals omega
theorem inV_bd (l : List P2) (p : P2) : -1 ≤ inV l p ∧ inV l p ≤ 1 := by
  unfold inV locV
  split
  · split
    · omega
    · split
      · rename_i h; have := lfold_bd p (upto (sq3 l h) l.length); omega
      · omega
  · omega

set_option maxRecDepth 100000 in
set_option maxHeartbeats 1600000 in
theorem sides_calls (l : List P2) (a : Option Addr) (cap : Nat) (p : P2) (w : World) (hg : Good w) (hT : Sl2 w a l) (hn : l.length ≤ maxLen) :
    Calls Tryz.prog 6 #[.slice a l.length cap, V p] w fun e w' => e = .returned (.bool true) ∧ Below w.heap.size w w' := by
  have hn' : l.length ≤ 9223372036854775807 := Nat.le_trans hn (by decide)
  have hal := alloc_below w (B2 p 23)
  have hx := blk_new w #[.int .i64 p.x, .int .i64 p.y] 23
  have HF := few37_calls a l.length cap (w.alloc (B2 p 23)) hn'
  cases hf : fewP l.length with
  | false =>
    rw [hf] at HF
    have H := Lib.hid (And.intro hg hal)
    clear hf hg hT hn hx hal
    go_enter Tryz.func6, Tryz.ntmps6
    go_wp2_with fail
    refine HF.mono ?_
    rintro e w1 ⟨rfl, hb1⟩
    clear HF
    have hb2 := below_trans H.out.2 hb1
    go_wp2_with fail
    refine (awake37_calls _ (H.out.1.to hb2)).mono ?_
    rintro e w2 ⟨rfl, hb3⟩
    go_wp2_with fail
    go_ret
    exact ⟨rfl, below_trans hb2 hb3⟩
  | true =>
    rw [hf] at HF
    have hl : l.length ≤ 1000000 := by
      simp only [fewP, Bool.or_eq_true, Bool.and_eq_true, decide_eq_true_eq] at hf
      omega
    have HI := fun W hgW hT => pInside_calls l a cap p W hgW hT hl
    have HR := fun W hT => rInside_calls l a cap p W hT hl
    have hb1 := i64_nErr l true p
    have hb2 := inV_bd l p
    generalize nErr l true p = er at HI HR hb1
    generalize inV l p = iv at HI HR hb2
    obtain ⟨e1, e2⟩ := hb1
    obtain ⟨v1, v2⟩ := hb2
    have H := Lib.hid (And.intro hg (And.intro hT (And.intro hal (And.intro hx (And.intro HI HR)))))
    clear hf hg hT hn hx hal HI HR hl
    go_enter Tryz.func6, Tryz.ntmps6
    go_wp2_with fail
    refine HF.mono ?_
    rintro e w1 ⟨rfl, hb1⟩
    clear HF
    have g1 := H.out.2.2.2.1.to hb1
    have c1 := g1.c 0 _ rfl
    have c2 := g1.c 1 _ rfl
    have HQ := Lib.hid (And.intro (below_trans H.out.2.2.1 hb1) g1); clear hb1 g1
    go_wp2_with fail
    refine (H.out.2.2.2.2.1 _ (H.out.1.to HQ.out.1) (H.out.2.1.to HQ.out.1)).mono ?_
    rintro e w2 ⟨rfl, hb2⟩
    clear c1 c2
    have g1 := HQ.out.2.to hb2
    have c1 := g1.c 0 _ rfl
    have c2 := g1.c 1 _ rfl
    have HS := Lib.hid (below_trans HQ.out.1 hb2); clear hb2 g1
    go_wp2_with fail
    refine (H.out.2.2.2.2.2 _ (H.out.2.1.to HS.out)).mono ?_
    rintro e w3 ⟨rfl, hb3⟩
    clear c1 c2
    have HV := Lib.hid (below_trans HS.out hb3); clear hb3
    go_wp2_with fail
    refine (awake37_calls _ (H.out.1.to HV.out)).mono ?_
    rintro e w4 ⟨rfl, hb4⟩
    go_wp2_with fail
    go_ret
    exact ⟨rfl, below_trans HV.out hb4⟩

end Go.Proofs.YtgdlfjofefhdoaaGreatDoor
