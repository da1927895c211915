/- The reference's Nearest, Within. -/
import Derived.Test.YtgdlfjofefhdoaaGreatDoorProfL
namespace Go.Proofs.YtgdlfjofefhdoaaGreatDoor
open Go.RowKit Go.Sort Go.Lib Go.Shelf Mb

attribute [local go_sem] Oper.semAt_some

theorem nV_err {l : List P2} {c : Bool} {p : P2} (h : nErr l c p ≠ 0) : nV l c p = .string ⟨#[]⟩ ∧ nI l c p = .int .i64 0 := by
  unfold nV nI; rw [if_neg h, if_neg h]; exact ⟨rfl, rfl⟩

set_option maxRecDepth 100000 in
set_option maxHeartbeats 4000000 in
theorem rNearest_calls (l : List P2) (a : Option Addr) (cap : Nat) (c : Bool) (p : P2) (w : World) (hT : Sl2 w a l) (hn : l.length ≤ 1000000) :
    Calls Tryz.prog 35 #[.slice a l.length cap, .bool c, V p] w fun e w' => e = .returned (.tuple #[nV l c p, nI l c p, .int .i64 (nErr l c p)]) ∧ Below w.heap.size w w' := by
  have hal := alloc_below w (B2 p 23)
  have HC := pcheckR_calls l a cap c (w.alloc (B2 p 23)) (hT.to hal) hn
  have hx := blk_new w #[.int .i64 p.x, .int .i64 p.y] 23
  have HR := fun w => right_calls p w
  by_cases hE : pErr l c = 0
  · rw [hE] at HC
    cases hp : flatB p with
    | true =>
      have h3 : nErr l c p = 0 := by unfold nErr; rw [if_pos hE, if_pos hp]
      have h2 : nV l c p = bV (nrst l c p) ∧ nI l c p = aV (nrst l c p) := by unfold nV nI; rw [if_pos h3, if_pos h3]; exact ⟨rfl, rfl⟩
      rw [h2.1, h2.2, h3]
      have HN := fun W hT => rnear_calls l a cap c p W hT hE hp
      rw [hp] at HR
      generalize bV (nrst l c p) = bv at HN ⊢
      generalize aV (nrst l c p) = av at HN ⊢
      have H := Lib.hid (And.intro hT (And.intro hal (And.intro hx (And.intro HR HN))))
      clear hT hal hx HR HN hp hE h3 h2
      go_enter Tryz.func35, Tryz.ntmps35
      go_wp2_with fail
      refine HC.mono ?_
      rintro e w1 ⟨rfl, hb1⟩
      clear HC
      have g1 := H.out.2.2.1.to hb1
      have c1 := g1.c 0 _ rfl
      have c2 := g1.c 1 _ rfl
      have HQ := Lib.hid (And.intro (below_trans H.out.2.1 hb1) g1); clear hb1 g1
      go_wp2_with fail
      refine (H.out.2.2.2.1 _).mono ?_
      rintro e w2 ⟨rfl, hb2⟩
      clear c1 c2
      have g1 := HQ.out.2.to hb2
      have c1 := g1.c 0 _ rfl
      have c2 := g1.c 1 _ rfl
      have HS := Lib.hid (below_trans HQ.out.1 hb2); clear hb2 g1
      go_wp2_with fail
      refine (H.out.2.2.2.2 _ (H.out.1.to HS.out)).mono ?_
      rintro e w3 ⟨rfl, hb3⟩
      go_wp2_with fail
      go_ret3
      exact ⟨rfl, below_trans HS.out hb3⟩
    | false =>
      have h3 : nErr l c p = 2 := by unfold nErr; rw [if_pos hE, if_neg (by simp [hp])]
      have h2 := nV_err (l := l) (c := c) (p := p) (by rw [h3]; decide)
      rw [h2.1, h2.2, h3]
      rw [hp] at HR
      have H := Lib.hid (And.intro hal (And.intro hx HR))
      clear hT hal hx HR hp hE h3 h2
      go_enter Tryz.func35, Tryz.ntmps35
      go_wp2_with fail
      refine HC.mono ?_
      rintro e w1 ⟨rfl, hb1⟩
      clear HC
      have g1 := H.out.2.1.to hb1
      have c1 := g1.c 0 _ rfl
      have c2 := g1.c 1 _ rfl
      have HQ := Lib.hid (below_trans H.out.1 hb1); clear hb1 g1
      go_wp2_with fail
      refine (H.out.2.2 _).mono ?_
      rintro e w2 ⟨rfl, hb2⟩
      go_wp2_with fail
      go_ret3
      exact ⟨rfl, below_trans HQ.out hb2⟩
  · have h3 : nErr l c p = pErr l c := by unfold nErr; rw [if_neg hE]
    have h2 := nV_err (l := l) (c := c) (p := p) (by rw [h3]; exact hE)
    rw [h2.1, h2.2, h3]
    generalize pErr l c = er at HC hE ⊢
    have H := Lib.hid hal
    clear hT hal hx HR h3 h2
    go_enter Tryz.func35, Tryz.ntmps35
    go_wp2_with fail
    refine HC.mono ?_
    rintro e w1 ⟨rfl, hb1⟩
    clear HC
    go_wp2_with fail
    go_ret3
    exact ⟨rfl, below_trans H.out hb1⟩

set_option maxRecDepth 100000 in
set_option maxHeartbeats 4000000 in
theorem rWithin_calls (l : List P2) (a : Option Addr) (cap : Nat) (c : Bool) (p : P2) (t : Int) (w : World) (hT : Sl2 w a l) (hn : l.length ≤ 1000000) :
    Calls Tryz.prog 37 #[.slice a l.length cap, .bool c, V p, .int .i64 t] w fun e w' => e = .returned (.tuple #[.bool (wiV l c p t), .int .i64 (wiE l c p t)]) ∧ Below w.heap.size w w' := by
  have hal := alloc_below w (B2 p 23)
  have HC := pcheckR_calls l a cap c (w.alloc (B2 p 23)) (hT.to hal) hn
  have hx := blk_new w #[.int .i64 p.x, .int .i64 p.y] 23
  have HR := fun w => right_calls p w
  have HT := fun w => rtol_calls t w
  by_cases hE : pErr l c = 0
  · rw [hE] at HC
    cases hp : flatB p with
    | true =>
      have h3 : nErr l c p = 0 := by unfold nErr; rw [if_pos hE, if_pos hp]
      rw [hp] at HR
      cases ht : tolB t with
      | true =>
        have h4 : wiE l c p t = 0 := by unfold wiE; rw [if_pos h3, if_pos ht]
        have h5 : wiV l c p t = !(ndB t 2 (nrst l c p)) := by unfold wiV; rw [if_pos h4]
        rw [h4, h5]
        have htb : 0 ≤ t ∧ t ≤ 100000 := by simpa [tolB] using ht
        have HN := fun W hT => rbeyond_calls l a cap c p t W hT hE hp htb.1 htb.2
        rw [ht] at HT
        generalize ndB t 2 (nrst l c p) = nb at HN ⊢
        have H := Lib.hid (And.intro hT (And.intro hal (And.intro hx (And.intro HR (And.intro HN HT)))))
        clear hT hal hx HR HN hp hE h3 h4 h5 HT ht htb
        go_enter Tryz.func37, Tryz.ntmps37
        go_wp2_with fail
        refine HC.mono ?_
        rintro e w1 ⟨rfl, hb1⟩
        clear HC
        have g1 := H.out.2.2.1.to hb1
        have c1 := g1.c 0 _ rfl
        have c2 := g1.c 1 _ rfl
        have HQ := Lib.hid (And.intro (below_trans H.out.2.1 hb1) g1); clear hb1 g1
        go_wp2_with fail
        refine (H.out.2.2.2.1 _).mono ?_
        rintro e w2 ⟨rfl, hb2⟩
        clear c1 c2
        have g1 := HQ.out.2.to hb2
        have c1 := g1.c 0 _ rfl
        have c2 := g1.c 1 _ rfl
        have HS := Lib.hid (below_trans HQ.out.1 hb2); clear hb2 g1
        go_wp2_with fail
        refine (H.out.2.2.2.2.2 _).mono ?_
        rintro e w4 ⟨rfl, rfl⟩
        go_wp2_with fail
        refine (H.out.2.2.2.2.1 _ (H.out.1.to HS.out)).mono ?_
        rintro e w3 ⟨rfl, hb3⟩
        go_wp2_with fail
        go_ret2
        exact ⟨rfl, below_trans HS.out hb3⟩
      | false =>
        have h4 : wiE l c p t = 2 := by unfold wiE; rw [if_pos h3, if_neg (by simp [ht])]
        have h5 : wiV l c p t = false := by unfold wiV; rw [if_neg (by rw [h4]; decide)]
        rw [h4, h5]
        rw [ht] at HT
        have H := Lib.hid (And.intro hal (And.intro hx (And.intro HR HT)))
        clear hT hal hx HR hp hE h3 h4 h5 HT ht
        go_enter Tryz.func37, Tryz.ntmps37
        go_wp2_with fail
        refine HC.mono ?_
        rintro e w1 ⟨rfl, hb1⟩
        clear HC
        have g1 := H.out.2.1.to hb1
        have c1 := g1.c 0 _ rfl
        have c2 := g1.c 1 _ rfl
        have HQ := Lib.hid (below_trans H.out.1 hb1); clear hb1 g1
        go_wp2_with fail
        refine (H.out.2.2.1 _).mono ?_
        rintro e w2 ⟨rfl, hb2⟩
        go_wp2_with fail
        refine (H.out.2.2.2 _).mono ?_
        rintro e w4 ⟨rfl, rfl⟩
        go_wp2_with fail
        go_ret2
        exact ⟨rfl, below_trans HQ.out hb2⟩
    | false =>
      have h3 : nErr l c p = 2 := by unfold nErr; rw [if_pos hE, if_neg (by simp [hp])]
      have h4 : wiE l c p t = 2 := by unfold wiE; rw [if_neg (by rw [h3]; decide), h3]
      have h5 : wiV l c p t = false := by unfold wiV; rw [if_neg (by rw [h4]; decide)]
      rw [h4, h5]
      rw [hp] at HR
      have H := Lib.hid (And.intro hal (And.intro hx HR))
      clear hT hal hx HR hp hE h3 h4 h5 HT
      go_enter Tryz.func37, Tryz.ntmps37
      go_wp2_with fail
      refine HC.mono ?_
      rintro e w1 ⟨rfl, hb1⟩
      clear HC
      have g1 := H.out.2.1.to hb1
      have c1 := g1.c 0 _ rfl
      have c2 := g1.c 1 _ rfl
      have HQ := Lib.hid (below_trans H.out.1 hb1); clear hb1 g1
      go_wp2_with fail
      refine (H.out.2.2 _).mono ?_
      rintro e w2 ⟨rfl, hb2⟩
      go_wp2_with fail
      go_ret2
      exact ⟨rfl, below_trans HQ.out hb2⟩
  · have h3 : nErr l c p = pErr l c := by unfold nErr; rw [if_neg hE]
    have h4 : wiE l c p t = pErr l c := by unfold wiE; rw [if_neg (by rw [h3]; exact hE), h3]
    have h5 : wiV l c p t = false := by unfold wiV; rw [if_neg (by rw [h4]; exact hE)]
    rw [h4, h5]
    generalize pErr l c = er at HC hE ⊢
    have H := Lib.hid hal
    clear hT hal hx HR h3 h4 h5 HT
    go_enter Tryz.func37, Tryz.ntmps37
    go_wp2_with fail
    refine HC.mono ?_
    rintro e w1 ⟨rfl, hb1⟩
    clear HC
    go_wp2_with fail
    go_ret2
    exact ⟨rfl, below_trans H.out hb1⟩

end Go.Proofs.YtgdlfjofefhdoaaGreatDoor
