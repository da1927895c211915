/- The walk of ProfileNear: it answers true. -/
import Derived.Test.YtgdlfjofefhdoaaGreatDoorSegG
import Derived.Test.YtgdlfjofefhdoaaGreatDoorAw37
namespace Go.Proofs.YtgdlfjofefhdoaaGreatDoor
open Go.RowKit Go.Sort Go.Lib Go.Shelf Mb

attribute [local go_sem] Oper.semAt_some

theorem nV_str (l : List P2) (c : Bool) (p : P2) : ∃ s, nV l c p = .string s := by
  unfold nV
  split
  · cases nrst l c p with
    | none => exact ⟨_, rfl⟩
    | some b => exact ⟨_, rfl⟩
  · exact ⟨_, rfl⟩
theorem nI_int (l : List P2) (c : Bool) (p : P2) : ∃ z, nI l c p = .int .i64 z := by
  unfold nI
  split
  · cases nrst l c p with
    | none => exact ⟨_, rfl⟩
    | some b => exact ⟨_, rfl⟩
  · exact ⟨_, rfl⟩

set_option maxRecDepth 100000 in
set_option maxHeartbeats 8000000 in
theorem pnearlaw_calls (l : List P2) (a : Option Addr) (cap : Nat) (c : Bool) (p : P2) (t : Int) (w : World) (hg : Good w) (hT : Sl2 w a l) (hn : l.length ≤ maxLen) :
    Calls Tryz.prog 7 #[.agg #[.slice a l.length cap, .bool c], V p, .int .i64 t] w fun e w' => e = .returned (.bool true) ∧ Below w.heap.size w w' := by
  have hn' : l.length ≤ 9223372036854775807 := Nat.le_trans hn (by decide)
  have hal : Below w.heap.size w ((w.alloc (.cells #[.slice a l.length cap, .bool c] 60)).alloc (B2 p 23)) := below2 _ _ _
  have g0 := (blk_new w #[.slice a l.length cap, .bool c] 60).to (alloc_below _ (B2 p 23))
  have g1 := blk_new (w.alloc (.cells #[.slice a l.length cap, .bool c] 60)) #[.int .i64 p.x, .int .i64 p.y] 23
  rw [size_alloc1] at g1
  have HF := fun w => few37_calls a l.length cap w hn'
  cases hf : fewP l.length with
  | false =>
    rw [hf] at HF
    have H := Lib.hid (And.intro hg (And.intro hal HF))
    clear hf hg hT hn hal HF g0 g1
    go_enter Tryz.func7, Tryz.ntmps7
    go_wp2_with fail
    refine (H.out.2.2 _).mono ?_
    rintro e w1 ⟨rfl, hb1⟩
    have hb2 := below_trans H.out.2.1 hb1
    go_wp2_with fail
    refine (awake37_calls _ (H.out.1.to hb2)).mono ?_
    rintro e w2 ⟨rfl, hb3⟩
    go_wp2_with fail
    go_ret
    exact ⟨rfl, below_trans hb2 hb3⟩
  | true =>
    rw [hf] at HF
    have hl : l.length ≤ 1000000 := by
      simp only [fewP, Bool.or_eq_true, Bool.and_eq_true, decide_eq_true_eq] at hf
      omega
    have H1 := fun (W : World) hg hT => pNearest_calls l a cap c p W hg hT hl
    have H2 := fun (W : World) hT => rNearest_calls l a cap c p W hT hl
    have H3 := fun (W : World) hg hT => pWithin_calls l a cap c p t W hg hT hl
    have H4 := fun (W : World) hT => rWithin_calls l a cap c p t W hT hl
    have H5 := fun (W : World) hT => pcheck_calls l a cap c W hT hl
    have H6 := fun (W : World) hT => pcheckR_calls l a cap c W hT hl
    obtain ⟨sv, hsv⟩ := nV_str l c p
    obtain ⟨iv, hiv⟩ := nI_int l c p
    rw [hsv, hiv] at H1 H2
    generalize nErr l c p = e1 at H1 H2
    generalize wiV l c p t = wv at H3 H4
    generalize wiE l c p t = we at H3 H4
    generalize pErr l c = pe at H5 H6
    have H := Lib.hid (And.intro hg (And.intro hT (And.intro hal (And.intro g0 (And.intro g1 (And.intro HF (And.intro H1 (And.intro H2 (And.intro H3 (And.intro H4 (And.intro H5 H6)))))))))))
    clear hf hg hT hn hal g0 g1 HF H1 H2 H3 H4 H5 H6 hsv hiv hl
    go_enter Tryz.func7, Tryz.ntmps7
    go_wp2_with fail
    refine (H.out.2.2.2.2.2.1 _).mono ?_
    rintro e w1 ⟨rfl, hb⟩
    have hA := below_trans H.out.2.2.1 hb
    have hX := H.out.2.2.2.1.to hb
    have hY := H.out.2.2.2.2.1.to hb
    have x0 := hX.c 0 _ rfl
    have x1 := hX.c 1 _ rfl
    have y0 := hY.c 0 _ rfl
    have y1 := hY.c 1 _ rfl
    have HA := Lib.hid (And.intro hA (And.intro hX hY)); clear hA hX hY hb
    go_wp2_with fail
    refine (H.out.2.2.2.2.2.2.1 _ (H.out.1.to HA.out.1) (H.out.2.1.to HA.out.1)).mono ?_
    rintro e w2 ⟨rfl, hb⟩
    clear x0 x1 y0 y1
    have hA := below_trans HA.out.1 hb
    have hX := HA.out.2.1.to hb
    have hY := HA.out.2.2.to hb
    have x0 := hX.c 0 _ rfl
    have x1 := hX.c 1 _ rfl
    have y0 := hY.c 0 _ rfl
    have y1 := hY.c 1 _ rfl
    have HB := Lib.hid (And.intro hA (And.intro hX hY)); clear hA hX hY hb HA
    go_wp2_with fail
    refine (H.out.2.2.2.2.2.2.2.1 _ (H.out.2.1.to HB.out.1)).mono ?_
    rintro e w3 ⟨rfl, hb⟩
    clear x0 x1 y0 y1
    have hA := below_trans HB.out.1 hb
    have hX := HB.out.2.1.to hb
    have hY := HB.out.2.2.to hb
    have x0 := hX.c 0 _ rfl
    have x1 := hX.c 1 _ rfl
    have y0 := hY.c 0 _ rfl
    have y1 := hY.c 1 _ rfl
    have HC := Lib.hid (And.intro hA (And.intro hX hY)); clear hA hX hY hb HB
    go_wp2_with fail
    refine (H.out.2.2.2.2.2.2.2.2.1 _ (H.out.1.to HC.out.1) (H.out.2.1.to HC.out.1)).mono ?_
    rintro e w4 ⟨rfl, hb⟩
    clear x0 x1 y0 y1
    have hA := below_trans HC.out.1 hb
    have hX := HC.out.2.1.to hb
    have hY := HC.out.2.2.to hb
    have x0 := hX.c 0 _ rfl
    have x1 := hX.c 1 _ rfl
    have y0 := hY.c 0 _ rfl
    have y1 := hY.c 1 _ rfl
    have HD := Lib.hid (And.intro hA (And.intro hX hY)); clear hA hX hY hb HC
    go_wp2_with fail
    refine (H.out.2.2.2.2.2.2.2.2.2.1 _ (H.out.2.1.to HD.out.1)).mono ?_
    rintro e w5 ⟨rfl, hb⟩
    clear x0 x1 y0 y1
    have hA := below_trans HD.out.1 hb
    have hX := HD.out.2.1.to hb
    have k0 := cell_regrown (hX.c 0 _ rfl)
    have k1 := cell_regrown (hX.c 1 _ rfl)
    have HE := Lib.hid hA; clear hA hX hb HD
    have q1 : ∀ dd os, Calls Tryz.prog 31 #[] (grow (redrawn w5 dd) os) fun e w'' => e = .returned (.bool true) ∧ ∃ p : Regrown, w'' = grow (redrawn w5 p.d) p.os := fun dd os => Calls.regrown_of (awake37_calls _ (H.out.1.to (below_trans HE.out (below_regrown w5 dd os))))
    have q2 : ∀ dd os, Calls Tryz.prog 38 #[.slice a l.length cap, .bool c] (grow (redrawn w5 dd) os) fun e w'' => e = .returned (.int .i64 pe) ∧ ∃ p : Regrown, w'' = grow (redrawn w5 p.d) p.os := fun dd os => Calls.regrown_of (H.out.2.2.2.2.2.2.2.2.2.2.1 _ (H.out.2.1.to (below_trans HE.out (below_regrown w5 dd os))))
    have q3 : ∀ dd os, Calls Tryz.prog 39 #[.slice a l.length cap, .bool c] (grow (redrawn w5 dd) os) fun e w'' => e = .returned (.int .i64 pe) ∧ ∃ p : Regrown, w'' = grow (redrawn w5 p.d) p.os := fun dd os => Calls.regrown_of (H.out.2.2.2.2.2.2.2.2.2.2.2 _ (H.out.2.1.to (below_trans HE.out (below_regrown w5 dd os))))
    go_wp2_with fail
    refine wp_region_quiet_below follows (by kernel_rfl) ?_
    repeat (quiet_step (first | with_reducible exact q1 _ _ | with_reducible exact q2 _ _ | with_reducible exact q3 _ _))
    refine wpQuiet_nil ?_
    intro _ hw'
    obtain ⟨⟨dq, osq⟩, hw''⟩ := hw'
    subst hw''
    go_wp2_with fail
    go_ret
    exact ⟨rfl, below_trans HE.out (below_regrown w5 dq osq)⟩

end Go.Proofs.YtgdlfjofefhdoaaGreatDoor
