/- Package profile: Outside, Within. -/
import Derived.Test.YtgdlfjofefhdoaaGreatDoorProfH
import Derived.Laws.EntriesVeiled
namespace Go.Proofs.YtgdlfjofefhdoaaGreatDoor
open Go.RowKit Go.Sort Go.Lib Go.Shelf Mb

attribute [local go_sem] Oper.semAt_some

/-- a slice of ints of the call's own -/
def Irow (w : World) (v : Value) (L : List Nat) : Prop := ∃ (a : Option Addr) (cp : Nat), v = .slice a L.length cp ∧ ∀ j (h : j < L.length), ∃ b, a = some ⟨b, 0, none⟩ ∧ b < w.heap.size ∧ w.cell? ⟨b, j, none⟩ = some (.int .i64 (L[j] : Int))
theorem Irow.to {w w' : World} {v : Value} {L : List Nat} (h : Irow w v L) (hb : Below w.heap.size w w') : Irow w' v L := by
  obtain ⟨a, cp, e, hc⟩ := h
  refine ⟨a, cp, e, fun j hj => ?_⟩
  obtain ⟨b, e1, e2, e3⟩ := hc j hj
  exact ⟨b, e1, Nat.lt_of_lt_of_le e2 hb.size, cell_to e3 hb⟩
theorem Irow.nil (w : World) : Irow w (.slice none 0 0) [] := ⟨none, 0, rfl, fun j h => absurd h (Nat.not_lt_zero j)⟩
theorem irow_of {w : World} {B : Nat} {v : Value} {L : List Nat} (h : w.ownsRow B 3 1 v L.length (vals L)) : Irow w v L := by
  rcases h.2 with ⟨rfl, h2⟩ | ⟨g, cap, cur, rfl, hb, hg, hcap, hmax, hcur, htake⟩
  · rw [List.length_eq_zero_iff.1 h2]; exact Irow.nil w
  · refine ⟨_, _, rfl, fun j hj => ⟨g, rfl, (Array.getElem?_eq_some_iff.1 hg).1, ?_⟩⟩
    have h3 := h.cellAt j (by simpa using hj)
    rw [h3]
    simp [vals, hj]

/-- the test of Outside: whether the nearest segment's distance is greater -/
def btB (N D : Int) (b : Option (Int × Int × Nat)) : Bool := match b with | none => false | some (n, d, _) => beyB N D n d
def btO (l : List P2) (c : Bool) (pts : List P2) (t y : Int) (k : Nat) : Bool := btB (mostN t y) (mostD t y) (nrst l c (g2 pts k))

def outE (l : List P2) (c : Bool) (pts : List P2) (t : Int) : Int := if pErr l c = 0 then (if errL pts = 0 then tolE [t] else errL pts) else pErr l c
def outL (l : List P2) (c : Bool) (pts : List P2) (t : Int) : List Nat := if outE l c pts t = 0 then idxL (btO l c pts t 2) pts.length else []

theorem il_new1 (w : World) (n : Int) (t : TypeId) : Il (w.alloc (.cells #[.int .i64 n] t)) w.heap.size [n] :=
  ⟨by simp, fun i h => by
    have hi : i = 0 := by simp at h; omega
    subst hi
    exact cell_new _ _ _ _ _ rfl⟩
theorem tolE_one (t : Int) : tolE [t] = if 0 ≤ t ∧ t ≤ 100000 then 0 else 2 := by
  unfold tolE tolB
  by_cases h : 0 ≤ t ∧ t ≤ 100000
  · rw [if_pos h, if_pos (by simp [h.1, h.2])]
  · rw [if_neg h, if_neg (by simp; omega)]

theorem run_enter {P : Program} {f : FuncId} {fn : Func} {c : Code} (hf : P.funcs[f]? = some fn) (hname : (fn.name == "runtime.NumGoroutine") = false) (hb : fn.body = some c) (args : Array Value) (w : World) :
    (callFunc f args).run P w = .ok (.enter f args) w := by
  have h1 : fn.name ≠ "runtime.NumGoroutine" := by simpa using hname
  simp [callFunc, hf, h1, hb]

theorem fn_out : ∀ args W, Sem.run Tryz.prog (callFunc 101 args) W = .ok (.enter 101 args) W := fun args W =>
  run_enter Tryz.func101 (by kernel_rfl) (by rfl) args W

set_option maxRecDepth 100000 in
set_option maxHeartbeats 4000000 in
theorem pOutside_calls (l pts : List P2) (a b : Option Addr) (cap cap' : Nat) (c : Bool) (t : Int) (w : World) (hg : Good w) (hT : Sl2 w a l) (hP : Sl2 w b pts) (hn : l.length ≤ 1000000) (hpn : pts.length ≤ 1000000) :
    Calls Tryz.prog 43 #[.slice a l.length cap, .bool c, .slice b pts.length cap', .int .i64 t] w fun e w' => (∃ v, e = .returned (.tuple #[v, .int .i64 (outE l c pts t)]) ∧ Irow w' v (outL l c pts t)) ∧ Below w.heap.size w w' := by
  have HC := pcheck_calls l a cap c w hT hn
  have HV := fun (W : World) hP => checkP_calls pts b cap' W hP (by omega)
  by_cases h1 : pErr l c = 0
  · by_cases h2 : errL pts = 0
    · have HT := fun (W : World) hI => tols_calls [t] W.heap.size 1 (W.alloc (.cells #[.int .i64 t] 3)) hI (by simp)
      simp only [List.length_cons, List.length_nil, Nat.zero_add] at HT
      have h3 : outE l c pts t = tolE [t] := by unfold outE; rw [if_pos h1, if_pos h2]
      rw [h1] at HC; rw [h2] at HV
      by_cases ht : 0 ≤ t ∧ t ≤ 100000
      · rw [tolE_one, if_pos ht] at h3
        have hL : outL l c pts t = idxL (btO l c pts t 2) pts.length := by unfold outL; rw [if_pos h3]
        rw [tolE_one, if_pos ht] at HT
        rw [h3, hL]
        obtain ⟨hp64, hpe⟩ := errL_ok h2
        have HB := fun (W : World) hg => pbeyond_calls t 2 W hg ht.1 ht.2 (by omega) (by omega)
        have hmd := most_dst (n := t) (y := 2) ht.1 ht.2 (by omega) (by omega)
        have H := Lib.hid (And.intro hg (And.intro hT (And.intro hP (And.intro h1 (And.intro hpe (And.intro HV (And.intro HT (And.intro HB hmd))))))))
        clear hg hT hP h1 h2 h3 hL hpe HV HT HB ht hn hpn hmd
        go_enter Tryz.func43, Tryz.ntmps43
        go_wp2_with fail
        refine HC.mono ?_
        rintro e w1 ⟨rfl, hb1⟩
        clear HC
        go_wp2_with fail
        refine (H.out.2.2.2.2.2.1 w1 (H.out.2.2.1.to hb1)).mono ?_
        rintro e w2 ⟨rfl, hb2⟩
        have hb3 := below_trans hb1 hb2
        go_wp2_with fail
        refine (H.out.2.2.2.2.2.2.1 w2 (il_new1 w2 t 3)).mono ?_
        rintro e w3 ⟨rfl, hb4⟩
        have hb5 := below_trans (below_trans hb3 (alloc_below w2 (.cells #[.int .i64 t] 3))) hb4
        clear hb1 hb2 hb3 hb4
        go_wp2_with fail
        refine (H.out.2.2.2.2.2.2.2.1 w3 (H.out.1.to hb5)).mono ?_
        rintro e w4 ⟨⟨M, rfl, hM, hMc⟩, hb6⟩
        have hMlt := World.block_lt_of_cell? _ _ hMc
        simp only at hMlt
        have hb7 := below_trans hb5 hb6
        have hal := alloc_below w4 (.cells #[.func (.func 144) #[] #[.pointer (some ⟨M, 0, none⟩)]] 139)
        have hMc' := cell_to hMc hal
        have hFc := cell_new w4 #[.func (.func 144) #[] #[.pointer (some ⟨M, 0, none⟩)]] 139 0 _ rfl
        have hb8 := below_trans hb7 hal
        have HZ := Lib.hid (And.intro hMc' (And.intro hFc (And.intro hb8 hMlt)))
        clear hMc hMc' hFc hb5 hb6 hb7 hb8 hal hM hMlt
        go_wp2_with fail
        refine (pfail_calls l pts a b cap cap' c 101 #[.pointer (some ⟨w4.heap.size, 0, none⟩)] w _ (fun _ W => W.cell? ⟨M, 0, none⟩ = some (R (mostN t 2) (mostD t 2)) ∧ W.cell? ⟨w4.heap.size, 0, none⟩ = some (.func (.func 144) #[] #[.pointer (some ⟨M, 0, none⟩)])) (btO l c pts t 2)
          HZ.out.2.2.1 H.out.1 H.out.2.1 H.out.2.2.1 H.out.2.2.2.1 H.out.2.2.2.2.1 hp64 ?_ ?_ ⟨HZ.out.1, HZ.out.2.1⟩ fn_out).mono ?_
        · rintro k W W' ⟨e1, e2⟩ hb
          have hlt := HZ.out.2.2.2
          simp only [size_alloc1] at hb
          exact ⟨(hb.cell (p := ⟨M, 0, none⟩) (by show M < _; omega)).trans e1, (hb.cell (p := ⟨w4.heap.size, 0, none⟩) (by show w4.heap.size < _; omega)).trans e2⟩
        · rintro k W hk ⟨e1, e2⟩ hbW hszW
          obtain ⟨⟨n, d, j⟩, hb⟩ := nrst_some (p := g2 pts k) H.out.2.2.2.1
          have hok := nrst_ok (l := l) (c := c) (g2_flat H.out.2.2.2.2.1 k)
          rw [hb] at hok
          have hbt : btO l c pts t 2 k = beyB (mostN t 2) (mostD t 2) n d := by unfold btO; rw [hb]; rfl
          rw [hb, hbt]
          have e3 : bV (some (n, d, j)) = R n d := rfl
          rw [e3]
          refine (outT_calls (mostN t 2) (mostD t 2) n d k M w4.heap.size W (H.out.1.to hbW) e1 e2 hok.1 H.out.2.2.2.2.2.2.2.2).mono ?_
          rintro e W' ⟨rfl, hb'⟩
          exact ⟨rfl, ⟨cell_to e1 hb', cell_to e2 hb'⟩, Kp.of hb' hbW.size⟩
        · rintro e w5 ⟨v, rfl, hown, -, hb9⟩
          go_wp2_with fail
          go_ret2
          exact ⟨⟨_, rfl, irow_of hown⟩, hb9⟩
      · rw [tolE_one, if_neg ht] at h3
        have hL : outL l c pts t = [] := by unfold outL; rw [if_neg (by rw [h3]; decide)]
        rw [tolE_one, if_neg ht] at HT
        rw [h3, hL]
        have H := Lib.hid (And.intro hP (And.intro HV HT))
        clear hg hT hP h1 h2 h3 hL HV HT ht hn hpn
        go_enter Tryz.func43, Tryz.ntmps43
        go_wp2_with fail
        refine HC.mono ?_
        rintro e w1 ⟨rfl, hb1⟩
        clear HC
        go_wp2_with fail
        refine (H.out.2.1 w1 (H.out.1.to hb1)).mono ?_
        rintro e w2 ⟨rfl, hb2⟩
        have hb3 := below_trans hb1 hb2
        go_wp2_with fail
        refine (H.out.2.2 w2 (il_new1 w2 t 3)).mono ?_
        rintro e w3 ⟨rfl, hb4⟩
        have hb5 := below_trans (below_trans hb3 (alloc_below w2 (.cells #[.int .i64 t] 3))) hb4
        go_wp2_with fail
        go_ret2
        exact ⟨⟨_, rfl, Irow.nil _⟩, hb5⟩
    · have h3 : outE l c pts t = errL pts := by unfold outE; rw [if_pos h1, if_neg h2]
      have hL : outL l c pts t = [] := by unfold outL; rw [if_neg (by rw [h3]; exact h2)]
      rw [h3, hL]
      rw [h1] at HC
      generalize errL pts = er at HV h2 ⊢
      have H := Lib.hid (And.intro hP HV)
      clear hg hT hP h1 h3 hL HV hn hpn
      go_enter Tryz.func43, Tryz.ntmps43
      go_wp2_with fail
      refine HC.mono ?_
      rintro e w1 ⟨rfl, hb1⟩
      clear HC
      go_wp2_with fail
      refine (H.out.2 w1 (H.out.1.to hb1)).mono ?_
      rintro e w2 ⟨rfl, hb2⟩
      go_wp2_with fail
      go_ret2
      exact ⟨⟨_, rfl, Irow.nil _⟩, below_trans hb1 hb2⟩
  · have h3 : outE l c pts t = pErr l c := by unfold outE; rw [if_neg h1]
    have hL : outL l c pts t = [] := by unfold outL; rw [if_neg (by rw [h3]; exact h1)]
    rw [h3, hL]
    generalize pErr l c = er at HC h1 ⊢
    clear hg hT hP h3 hL HV hn hpn
    go_enter Tryz.func43, Tryz.ntmps43
    go_wp2_with fail
    refine HC.mono ?_
    rintro e w1 ⟨rfl, hb1⟩
    clear HC
    go_wp2_with fail
    go_ret2
    exact ⟨⟨_, rfl, Irow.nil _⟩, hb1⟩

end Go.Proofs.YtgdlfjofefhdoaaGreatDoor
