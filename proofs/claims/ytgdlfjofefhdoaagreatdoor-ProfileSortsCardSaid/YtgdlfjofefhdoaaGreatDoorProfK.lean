/- Package profile: Unequal, whole. -/
import Derived.Test.YtgdlfjofefhdoaaGreatDoorProfJ
import Derived.Laws.EntriesVeiled
namespace Go.Proofs.YtgdlfjofefhdoaaGreatDoor
open Go.RowKit Go.Sort Go.Lib Go.Shelf Mb

attribute [local go_sem] Oper.semAt_some

def unE (l pts : List P2) (x y : Int) : Int := if pErr l true = 0 then (if errL pts = 0 then tolE [x, y] else errL pts) else pErr l true
def unL (l pts : List P2) (x y : Int) : List Nat := if unE l pts x y = 0 then idxL (unB l pts x y) pts.length else []

theorem il_new2 (w : World) (n m : Int) (t : TypeId) : Il (w.alloc (.cells #[.int .i64 n, .int .i64 m] t)) w.heap.size [n, m] :=
  ⟨by simp, fun i h => by
    match i, h with
    | 0, _ => exact cell_new _ _ _ _ _ rfl
    | 1, _ => exact cell_new _ _ _ _ _ rfl
    | i + 2, h => simp at h; omega⟩
theorem tolE_two (x y : Int) : tolE [x, y] = if (0 ≤ x ∧ x ≤ 100000) ∧ (0 ≤ y ∧ y ≤ 100000) then 0 else 2 := by
  unfold tolE tolB
  by_cases h : (0 ≤ x ∧ x ≤ 100000) ∧ (0 ≤ y ∧ y ≤ 100000)
  · rw [if_pos h, if_pos (by simp [h.1.1, h.1.2, h.2.1, h.2.2])]
  · rw [if_neg h, if_neg (by simp; omega)]

theorem fn_un : ∀ args W, Sem.run Tryz.prog (callFunc 99 args) W = .ok (.enter 99 args) W := fun args W =>
  run_enter Tryz.func99 (by kernel_rfl) (by rfl) args W

abbrev uWorld (w : World) (a b : Option Addr) (n m cap cap' : Nat) : World := (w.alloc (.cells #[.slice a n cap] 54)).alloc (.cells #[.slice b m cap'] 54)

set_option maxRecDepth 100000 in
set_option maxHeartbeats 4000000 in
theorem pUnequal_calls (l pts : List P2) (a b : Option Addr) (cap cap' : Nat) (x y : Int) (w : World) (hg : Good w) (hT : Sl2 w a l) (hP : Sl2 w b pts) (hn : l.length ≤ 1000000) (hpn : pts.length ≤ 1000000) :
    Calls Tryz.prog 40 #[.slice a l.length cap, .slice b pts.length cap', .int .i64 x, .int .i64 y] w fun e w' => (∃ v, e = .returned (.tuple #[v, .int .i64 (unE l pts x y)]) ∧ Irow w' v (unL l pts x y)) ∧ Below w.heap.size w w' := by
  have hal : Below w.heap.size w (uWorld w a b l.length pts.length cap cap') := below2 _ _ _
  have g4 := (blk_new w #[.slice a l.length cap] 54).to (alloc_below _ (.cells #[.slice b pts.length cap'] 54))
  have g5 := blk_new (w.alloc (.cells #[.slice a l.length cap] 54)) #[.slice b pts.length cap'] 54
  rw [size_alloc1] at g5
  have HC := pcheck_calls l a cap true (uWorld w a b l.length pts.length cap cap') (hT.to hal) hn
  have HV := fun (W : World) hP => checkP_calls pts b cap' W hP (by omega)
  have HM := Lib.hid (And.intro hal (And.intro g4 g5)); clear hal g4 g5
  by_cases h1 : pErr l true = 0
  · by_cases h2 : errL pts = 0
    · have HT := fun (W : World) hI => tols_calls [x, y] W.heap.size 2 (W.alloc (.cells #[.int .i64 x, .int .i64 y] 3)) hI (by simp)
      simp only [List.length_cons, List.length_nil, Nat.zero_add, Nat.reduceAdd] at HT
      have h3 : unE l pts x y = tolE [x, y] := by unfold unE; rw [if_pos h1, if_pos h2]
      rw [h1] at HC; rw [h2] at HV
      by_cases ht : (0 ≤ x ∧ x ≤ 100000) ∧ (0 ≤ y ∧ y ≤ 100000)
      · rw [tolE_two, if_pos ht] at h3
        have hL : unL l pts x y = idxL (unB l pts x y) pts.length := by unfold unL; rw [if_pos h3]
        rw [tolE_two, if_pos ht] at HT
        rw [h3, hL]
        obtain ⟨hp64, hpe⟩ := errL_ok h2
        have HBx := fun (W : World) hg => pbeyond_calls x 1 W hg ht.1.1 ht.1.2 (by omega) (by omega)
        have HBy := fun (W : World) hg => pbeyond_calls y 1 W hg ht.2.1 ht.2.2 (by omega) (by omega)
        have hmx := most_dst (n := x) (y := 1) ht.1.1 ht.1.2 (by omega) (by omega)
        have hmy := most_dst (n := y) (y := 1) ht.2.1 ht.2.2 (by omega) (by omega)
        have H := Lib.hid (And.intro hg (And.intro hT (And.intro hP (And.intro h1 (And.intro hpe (And.intro HV (And.intro HT (And.intro HBx (And.intro HBy (And.intro hmx hmy))))))))))
        clear hg hT hP h1 h2 h3 hL hpe HV HT HBx HBy ht hn hpn hmx hmy
        go_enter Tryz.func40, Tryz.ntmps40
        go_wp2_with fail
        refine HC.mono ?_
        rintro e w1 ⟨rfl, hb1⟩
        clear HC
        have c5 := (HM.out.2.2.to hb1).c 0 _ rfl
        have HB1 := Lib.hid (And.intro (below_trans HM.out.1 hb1) (And.intro (HM.out.2.1.to hb1) (HM.out.2.2.to hb1))); clear hb1
        go_wp2_with fail
        refine (H.out.2.2.2.2.2.1 w1 (H.out.2.2.1.to HB1.out.1)).mono ?_
        rintro e w2 ⟨rfl, hb2⟩
        clear c5
        have HB2 := Lib.hid (And.intro (below_trans HB1.out.1 hb2) (And.intro (HB1.out.2.1.to hb2) (HB1.out.2.2.to hb2))); clear hb2
        go_wp2_with fail
        refine (H.out.2.2.2.2.2.2.1 w2 (il_new2 w2 x y 3)).mono ?_
        rintro e w3 ⟨rfl, hb4⟩
        have hb5 := below_trans (alloc_below w2 (.cells #[.int .i64 x, .int .i64 y] 3)) hb4
        have HB3 := Lib.hid (And.intro (below_trans HB2.out.1 hb5) (And.intro (HB2.out.2.1.to hb5) (HB2.out.2.2.to hb5))); clear hb4 hb5
        go_wp2_with fail
        refine (H.out.2.2.2.2.2.2.2.1 w3 (H.out.1.to HB3.out.1)).mono ?_
        rintro e w4 ⟨⟨MD, rfl, hMD, hDc⟩, hb6⟩
        have HB4 := Lib.hid (And.intro (below_trans HB3.out.1 hb6) (And.intro (HB3.out.2.1.to hb6) (And.intro (HB3.out.2.2.to hb6) hDc))); clear hb6 hDc hMD
        go_wp2_with fail
        refine (H.out.2.2.2.2.2.2.2.2.1 w4 (H.out.1.to HB4.out.1)).mono ?_
        rintro e w5 ⟨⟨MF, rfl, hMF, hFc⟩, hb6⟩
        have hal2 : Below w5.heap.size w5 ((w5.alloc (.cells #[bFn MD] 139)).alloc (.cells #[bFn MF] 139)) := below2 _ _ _
        have hb7 := below_trans hb6 hal2
        have k4 := (HB4.out.2.1.to hb7).c 0 _ rfl
        have k5 := (HB4.out.2.2.1.to hb7).c 0 _ rfl
        have hU : UM l pts a b cap cap' w.heap.size (w.heap.size + 1) w5.heap.size (w5.heap.size + 1) MD MF x y ((w5.alloc (.cells #[bFn MD] 139)).alloc (.cells #[bFn MF] 139)) :=
          ⟨k4, k5, cell_to (cell_new w5 #[bFn MD] 139 0 _ rfl) (alloc_below _ _), by
            have h := cell_new (w5.alloc (.cells #[bFn MD] 139)) #[bFn MF] 139 0 _ rfl
            rw [size_alloc1] at h; exact h, cell_to HB4.out.2.2.2 hb7, cell_to hFc hal2⟩
        have HZ := Lib.hid (And.intro hU (below_trans HB4.out.1 hb7))
        clear hb6 hb7 hal2 hU hMF hFc
        go_wp2_with fail
        refine (pfail_calls l pts a b cap cap' true 99 #[.pointer (some ⟨w.heap.size, 0, none⟩), .pointer (some ⟨w.heap.size + 1, 0, none⟩), .pointer (some ⟨w5.heap.size, 0, none⟩), .pointer (some ⟨w5.heap.size + 1, 0, none⟩)] w _ (fun _ W => UM l pts a b cap cap' w.heap.size (w.heap.size + 1) w5.heap.size (w5.heap.size + 1) MD MF x y W) (unB l pts x y)
          HZ.out.2 H.out.1 H.out.2.1 H.out.2.2.1 H.out.2.2.2.1 H.out.2.2.2.2.1 hp64 ?_ ?_ HZ.out.1 fn_un).mono ?_
        · rintro k W W' e1 hb
          have hU := HZ.out.1
          have g := fun {p : Addr} {v : Value} (h : ((w5.alloc (.cells #[bFn MD] 139)).alloc (.cells #[bFn MF] 139)).cell? p = some v) => World.block_lt_of_cell? _ _ h
          have t := fun {p : Addr} {v v' : Value} (h : ((w5.alloc (.cells #[bFn MD] 139)).alloc (.cells #[bFn MF] 139)).cell? p = some v) (h' : W.cell? p = some v') => (hb.cell (g h)).trans h'
          exact ⟨t hU.c4 e1.c4, t hU.c5 e1.c5, t hU.cd e1.cd, t hU.cf e1.cf, t hU.md e1.md, t hU.mf e1.mf⟩
        · rintro k W hk e1 hbW hszW
          refine (unT_calls l pts a b cap cap' w.heap.size (w.heap.size + 1) w5.heap.size (w5.heap.size + 1) MD MF x y k W (H.out.1.to hbW) e1 (H.out.2.1.to hbW) (H.out.2.2.1.to hbW) hk H.out.2.2.2.1 H.out.2.2.2.2.1 H.out.2.2.2.2.2.2.2.2.2.1 H.out.2.2.2.2.2.2.2.2.2.2).mono ?_
          rintro e W' ⟨rfl, hb'⟩
          exact ⟨rfl, e1.to hb', Kp.of hb' hbW.size⟩
        · rintro e w6 ⟨v, rfl, hown, -, hb9⟩
          go_wp2_with fail
          go_ret2
          exact ⟨⟨_, rfl, irow_of hown⟩, hb9⟩
      · rw [tolE_two, if_neg ht] at h3
        have hL : unL l pts x y = [] := by unfold unL; rw [if_neg (by rw [h3]; decide)]
        rw [tolE_two, if_neg ht] at HT
        rw [h3, hL]
        have H := Lib.hid (And.intro hP (And.intro HV HT))
        clear hg hT hP h1 h2 h3 hL HV HT ht hn hpn
        go_enter Tryz.func40, Tryz.ntmps40
        go_wp2_with fail
        refine HC.mono ?_
        rintro e w1 ⟨rfl, hb1⟩
        clear HC
        have c5 := (HM.out.2.2.to hb1).c 0 _ rfl
        have HB1 := Lib.hid (below_trans HM.out.1 hb1); clear hb1
        go_wp2_with fail
        refine (H.out.2.1 w1 (H.out.1.to HB1.out)).mono ?_
        rintro e w2 ⟨rfl, hb2⟩
        clear c5
        have HB2 := Lib.hid (below_trans HB1.out hb2); clear hb2
        go_wp2_with fail
        refine (H.out.2.2 w2 (il_new2 w2 x y 3)).mono ?_
        rintro e w3 ⟨rfl, hb4⟩
        have hb5 := below_trans (below_trans HB2.out (alloc_below w2 (.cells #[.int .i64 x, .int .i64 y] 3))) hb4
        go_wp2_with fail
        go_ret2
        exact ⟨⟨_, rfl, Irow.nil _⟩, hb5⟩
    · have h3 : unE l pts x y = errL pts := by unfold unE; rw [if_pos h1, if_neg h2]
      have hL : unL l pts x y = [] := by unfold unL; rw [if_neg (by rw [h3]; exact h2)]
      rw [h3, hL]
      rw [h1] at HC
      generalize errL pts = er at HV h2 ⊢
      have H := Lib.hid (And.intro hP HV)
      clear hg hT hP h1 h3 hL HV hn hpn
      go_enter Tryz.func40, Tryz.ntmps40
      go_wp2_with fail
      refine HC.mono ?_
      rintro e w1 ⟨rfl, hb1⟩
      clear HC
      have c5 := (HM.out.2.2.to hb1).c 0 _ rfl
      have HB1 := Lib.hid (below_trans HM.out.1 hb1); clear hb1
      go_wp2_with fail
      refine (H.out.2 w1 (H.out.1.to HB1.out)).mono ?_
      rintro e w2 ⟨rfl, hb2⟩
      go_wp2_with fail
      go_ret2
      exact ⟨⟨_, rfl, Irow.nil _⟩, below_trans HB1.out hb2⟩
  · have h3 : unE l pts x y = pErr l true := by unfold unE; rw [if_neg h1]
    have hL : unL l pts x y = [] := by unfold unL; rw [if_neg (by rw [h3]; exact h1)]
    rw [h3, hL]
    generalize pErr l true = er at HC h1 ⊢
    clear hg hT hP h3 hL HV hn hpn
    go_enter Tryz.func40, Tryz.ntmps40
    go_wp2_with fail
    refine HC.mono ?_
    rintro e w1 ⟨rfl, hb1⟩
    clear HC
    go_wp2_with fail
    go_ret2
    exact ⟨⟨_, rfl, Irow.nil _⟩, below_trans HM.out.1 hb1⟩

end Go.Proofs.YtgdlfjofefhdoaaGreatDoor
