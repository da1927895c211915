/- Package profile: Worst, whole. -/
import Derived.Test.YtgdlfjofefhdoaaGreatDoorProfM
namespace Go.Proofs.YtgdlfjofefhdoaaGreatDoor
open Go.RowKit Go.Sort Go.Lib Go.Shelf Mb

attribute [local go_sem] Oper.semAt_some

def woE (l : List P2) (c : Bool) (pts : List P2) : Int := if pErr l c = 0 then (if errL pts = 0 then (if pts.length = 0 then 13 else 0) else errL pts) else pErr l c
def woV (l : List P2) (c : Bool) (pts : List P2) : Value := if woE l c pts = 0 then R (wfl l c pts (-1, 1, 0) pts.length).1 (wfl l c pts (-1, 1, 0) pts.length).2.1 else .string ⟨#[]⟩
def woI (l : List P2) (c : Bool) (pts : List P2) : Int := if woE l c pts = 0 then ((wfl l c pts (-1, 1, 0) pts.length).2.2 : Int) else 0

theorem fn_wo : ∀ args W, Sem.run Tryz.prog (callFunc 102 args) W = .ok (.enter 102 args) W := fun args W =>
  run_enter Tryz.func102 (by kernel_rfl) (by rfl) args W

theorem R_m1 : R (-1) 1 = .string ⟨#[45, 49]⟩ := by
  rw [R_one]
  show Value.string ⟨(itoa (-1)).toArray⟩ = _
  rw [Mb.itoa_neg (by omega), show (-1 : Int).natAbs = 1 from rfl]
  simp [decDigits]

set_option maxRecDepth 100000 in
set_option maxHeartbeats 4000000 in
theorem pWorst_calls (l pts : List P2) (a b : Option Addr) (cap cap' : Nat) (c : Bool) (w : World) (hg : Good w) (hT : Sl2 w a l) (hP : Sl2 w b pts) (hn : l.length ≤ 1000000) (hpn : pts.length ≤ 1000000) :
    Calls Tryz.prog 45 #[.slice a l.length cap, .bool c, .slice b pts.length cap'] w fun e w' => e = .returned (.tuple #[woV l c pts, .int .i64 (woI l c pts), .int .i64 (woE l c pts)]) ∧ Below w.heap.size w w' := by
  have HC := pcheck_calls l a cap c w hT hn
  have HV := fun (W : World) hP => checkP_calls pts b cap' W hP (by omega)
  by_cases h1 : pErr l c = 0
  · rw [h1] at HC
    by_cases h2 : errL pts = 0
    · rw [h2] at HV
      by_cases h3 : pts.length = 0
      · have h4 : woE l c pts = 13 := by unfold woE; rw [if_pos h1, if_pos h2, if_pos h3]
        rw [h4, show woV l c pts = .string ⟨#[]⟩ by unfold woV; rw [if_neg (by rw [h4]; decide)], show woI l c pts = 0 by unfold woI; rw [if_neg (by rw [h4]; decide)]]
        have H := Lib.hid (And.intro hP HV)
        rw [h3] at H ⊢
        clear hg hT hP h1 h2 h4 HV hn hpn h3
        go_enter Tryz.func45, Tryz.ntmps45
        go_wp2_with fail
        refine HC.mono ?_
        rintro e w1 ⟨rfl, hb1⟩
        clear HC
        go_wp2_with fail
        refine (H.out.2 _ (H.out.1.to hb1)).mono ?_
        rintro e w2 ⟨rfl, hb2⟩
        go_wp2_with fail
        go_ret3
        exact ⟨rfl, below_trans hb1 hb2⟩
      · have h4 : woE l c pts = 0 := by unfold woE; rw [if_pos h1, if_pos h2, if_neg h3]
        rw [h4, show woV l c pts = R (wfl l c pts (-1, 1, 0) pts.length).1 (wfl l c pts (-1, 1, 0) pts.length).2.1 by unfold woV; rw [if_pos h4], show woI l c pts = ((wfl l c pts (-1, 1, 0) pts.length).2.2 : Int) by unfold woI; rw [if_pos h4]]
        obtain ⟨hp64, hpe⟩ := errL_ok h2
        have h3' : ¬ (pts.length : Int) = 0 := by omega
        have d3 : decide ((pts.length : Int) = 0) = false := decide_eq_false h3'
        obtain ⟨sf, hsf⟩ : ∃ s, R (wfl l c pts (-1, 1, 0) pts.length).1 (wfl l c pts (-1, 1, 0) pts.length).2.1 = .string s := ⟨_, rfl⟩
        have HPF := fun (w₁ : World) (hb0 : Below w.heap.size w w₁) hI hc h0 => pfail_calls l pts a b cap cap' c 102 #[.pointer (some ⟨w₁.heap.size - 2, 0, none⟩), .pointer (some ⟨w₁.heap.size - 2 + 1, 0, none⟩)] w w₁ (WM l c pts (w₁.heap.size - 2)) (fun _ => false) hb0 hg hT hP h1 hpe hp64 hI hc h0 fn_wo
        have HT := fun (B k n₀ base : Nat) (W : World) hgW hM h0 hb hbw => wT_calls l pts c B k n₀ base W hgW hM h1 hpe h0 hb hbw
        have H := Lib.hid (And.intro hg (And.intro hP (And.intro HV (And.intro HPF (And.intro HT hsf)))))
        rw [hsf]
        clear hg hT hP h1 h2 h4 HV hn hpn HPF HT hsf hpe
        go_enter Tryz.func45, Tryz.ntmps45
        go_wp2_with fail
        refine HC.mono ?_
        rintro e w1 ⟨rfl, hb1⟩
        clear HC
        go_wp2_with fail
        refine (H.out.2.2.1 _ (H.out.2.1.to hb1)).mono ?_
        rintro e w2 ⟨rfl, hb2⟩
        have hal : Below w2.heap.size w2 ((w2.alloc (.cells #[.string ⟨#[45, 49]⟩] 24)).alloc (.cells #[.int .i64 0] 3)) := below2 _ _ _
        have hb3 := below_trans (below_trans hb1 hb2) hal
        have hMb : Blk ((w2.alloc (.cells #[.string ⟨#[45, 49]⟩] 24)).alloc (.cells #[.int .i64 0] 3)) w2.heap.size #[.string ⟨#[45, 49]⟩] 24 := (blk_new w2 _ _).to (alloc_below _ _)
        have hMa : Blk ((w2.alloc (.cells #[.string ⟨#[45, 49]⟩] 24)).alloc (.cells #[.int .i64 0] 3)) (w2.heap.size + 1) #[.int .i64 0] 3 := by
          have h := blk_new (w2.alloc (.cells #[.string ⟨#[45, 49]⟩] 24)) #[.int .i64 0] 3
          rw [size_alloc1] at h; exact h
        have hM : WM l c pts w2.heap.size 0 ((w2.alloc (.cells #[.string ⟨#[45, 49]⟩] 24)).alloc (.cells #[.int .i64 0] 3)) := ⟨by show Blk _ _ #[R (-1) 1] _; rw [R_m1]; exact hMb, hMa⟩
        have hw2 : w.heap.size ≤ w2.heap.size := (below_trans hb1 hb2).size
        have hF := H.out.2.2.2.1 _ hb3
        rw [show ((w2.alloc (.cells #[.string ⟨#[45, 49]⟩] 24)).alloc (.cells #[.int .i64 0] 3)).heap.size - 2 = w2.heap.size by simp] at hF
        have HZ := Lib.hid (And.intro hM (And.intro hb3 (And.intro hw2 hF)))
        clear hb1 hb2 hal hb3 hMb hMa hM hw2 hF
        go_wp2_with fail
        refine (HZ.out.2.2.2 ?_ ?_ HZ.out.1).mono ?_
        · rintro k W W' hM hb
          refine ⟨?_, ?_⟩
          · exact (hb.block _ (by rw [size_alloc1, size_alloc1]; omega)).trans hM.b
          · exact (hb.block _ (by rw [size_alloc1, size_alloc1]; omega)).trans hM.a
        · rintro k W hk hM hbW hszW
          exact H.out.2.2.2.2.1 w2.heap.size k w.heap.size _ W (H.out.1.to hbW) hM HZ.out.2.2.1 (by rw [size_alloc1, size_alloc1]; omega) hszW
        · rintro e w5 ⟨v, rfl, hown, hM, hb9⟩
          have m1 := hM.b.c 0 _ rfl
          have m2 := hM.a.c 0 _ rfl
          rw [H.out.2.2.2.2.2] at m1
          obtain ⟨af, haf⟩ : ∃ z, ((wfl l c pts (-1, 1, 0) pts.length).2.2 : Int) = z := ⟨_, rfl⟩
          rw [haf] at m2
          have HY := Lib.hid (And.intro hb9 haf)
          clear hM hown hb9 haf
          go_wp2_with fail
          go_region
          all_goals (go_wp2_with fail; go_ret3; exact ⟨by rw [HY.out.2]; rfl, HY.out.1.trans ((bel_dn _ 1).mono HY.out.1.size)⟩)
    · have h4 : woE l c pts = errL pts := by unfold woE; rw [if_pos h1, if_neg h2]
      rw [h4, show woV l c pts = .string ⟨#[]⟩ by unfold woV; rw [if_neg (by rw [h4]; exact h2)], show woI l c pts = 0 by unfold woI; rw [if_neg (by rw [h4]; exact h2)]]
      generalize errL pts = er at HV h2 ⊢
      have H := Lib.hid (And.intro hP HV)
      clear hg hT hP h1 h4 HV hn hpn
      go_enter Tryz.func45, Tryz.ntmps45
      go_wp2_with fail
      refine HC.mono ?_
      rintro e w1 ⟨rfl, hb1⟩
      clear HC
      go_wp2_with fail
      refine (H.out.2 _ (H.out.1.to hb1)).mono ?_
      rintro e w2 ⟨rfl, hb2⟩
      go_wp2_with fail
      go_ret3
      exact ⟨rfl, below_trans hb1 hb2⟩
  · have h4 : woE l c pts = pErr l c := by unfold woE; rw [if_neg h1]
    rw [h4, show woV l c pts = .string ⟨#[]⟩ by unfold woV; rw [if_neg (by rw [h4]; exact h1)], show woI l c pts = 0 by unfold woI; rw [if_neg (by rw [h4]; exact h1)]]
    generalize pErr l c = er at HC h1 ⊢
    clear hg hT hP h4 HV hn hpn
    go_enter Tryz.func45, Tryz.ntmps45
    go_wp2_with fail
    refine HC.mono ?_
    rintro e w1 ⟨rfl, hb1⟩
    clear HC
    go_wp2_with fail
    go_ret3
    exact ⟨rfl, hb1⟩

end Go.Proofs.YtgdlfjofefhdoaaGreatDoor
