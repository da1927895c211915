/- The reference's Location, Inside. -/
import Derived.Test.YtgdlfjofefhdoaaGreatDoorSegC
namespace Go.Proofs.YtgdlfjofefhdoaaGreatDoor
open Go.RowKit Go.Sort Go.Lib Go.Shelf Mb

attribute [local go_sem] Oper.semAt_some

/-- the side over the first segments -/
def lr (l : List P2) (p : P2) (h : errOf l = 0) (k : Nat) : Int := lfold p (upto (sq3 l h) k)
theorem lr_succ (l : List P2) (p : P2) (h : errOf l = 0) (k : Nat) : lr l p h (k + 1) = if crX (sg l k).1 (sg l k).2 p = true then -(lr l p h k) else lr l p h k := by
  unfold lr
  rw [upto_succ, lfold_snoc]
  rfl

set_option maxRecDepth 100000 in
set_option maxHeartbeats 4000000 in
theorem rloc_calls (l : List P2) (a : Option Addr) (cap : Nat) (p : P2) (w : World) (hT : Sl2 w a l) (he : pErr l true = 0) (hp : flatB p = true) :
    Calls Tryz.prog 88 #[.slice a l.length cap, V p] w fun e w' => e = .returned (.int .i64 (locV l p)) ∧ Below w.heap.size w w' := by
  obtain ⟨h64, hE, h2, h3, -⟩ := pErr_ok he
  have hal := alloc_below w (B2 p 23)
  have hx := blk_new w #[.int .i64 p.x, .int .i64 p.y] 23
  have HN := rnear_calls l a cap true p (w.alloc (B2 p 23)) (hT.to hal) he hp
  obtain ⟨⟨n, d, j⟩, hb⟩ := nrst_some (p := p) he
  obtain ⟨sx, hsx⟩ : ∃ s : ByteArray, s = ⟨(rtxt n d).toArray⟩ := ⟨_, rfl⟩
  have e1 : bV (some (n, d, j)) = .string sx := by rw [hsx]; rfl
  have e2 : (sx.toList == [48]) = isZ (some (n, d, j)) := by rw [hsx, tl_bytes]; rfl
  obtain ⟨av, hav⟩ : ∃ v, aV (some (n, d, j)) = v := ⟨_, rfl⟩
  rw [hb, e1, hav] at HN
  unfold locV
  rw [hb]
  cases hz : isZ (some (n, d, j)) with
  | true =>
    rw [hz] at e2
    rw [if_pos rfl]
    have e3 : sx.toList = [48] := by simpa using e2
    clear hT he hp hx hsx e1 hav hz hE h2 h3 hb
    go_enter Tryz.func88, Tryz.ntmps88
    go_wp2_with fail
    refine HN.mono ?_
    rintro e w1 ⟨rfl, hb1⟩
    clear HN
    go_wp2_with fail
    go_ret
    exact ⟨rfl, below_trans hal hb1⟩
  | false =>
    rw [hz] at e2
    rw [if_neg (by simp), dif_pos hE]
    have e3 : ¬ sx.toList = [48] := by simpa using e2
    have HSg := fun W hT => segs_calls l a cap true W hT (by omega) h64
    rw [show segM l.length true = l.length from rfl] at HSg
    obtain ⟨m, hm⟩ : ∃ m, l.length = m := ⟨_, rfl⟩
    have hlr : lfold p (upto (sq3 l hE) l.length) = lr l p hE m := by rw [← hm]; rfl
    rw [hlr]
    simp only [hm] at HSg
    have hm0 : 0 < m := by omega
    have hm64 : m ≤ 64 := by omega
    have hX := fun k W => rcross_calls (sg l k).1 (sg l k).2 p W (bd_flat (g2_flat hE _)) (bd_flat (g2_flat hE _)) (bd_flat hp)
    have H := Lib.hid (And.intro hT (And.intro hal (And.intro hx (And.intro HSg hX))))
    rw [hm] at HN
    rw [hm]
    clear hT he hp hx hsx e1 hav hz h2 h3 hb HSg hX hal h64 hlr
    go_enter Tryz.func88, Tryz.ntmps88
    go_wp2_with fail
    refine HN.mono ?_
    rintro e w1 ⟨rfl, hb1⟩
    clear HN
    have hb2 := below_trans H.out.2.1 hb1
    have HB := Lib.hid (And.intro hb2 (H.out.2.2.1.to hb1)); clear hb1 hb2
    go_wp2_with fail
    refine (H.out.2.2.2.1 w1 (H.out.1.to HB.out.1)).mono ?_
    rintro e w2 ⟨⟨v, rfl, hown⟩, hb2⟩
    obtain ⟨g, cp, rfl, hgl, hcell⟩ := seg_cell hown hm0
    have HW := Lib.hid (And.intro (below_trans HB.out.1 hb2) (And.intro hcell (HB.out.2.to hb2)))
    clear hown hgl hcell hb2 HB
    go_wp2_with fail
    go_loopg [7, 21] m (fun gk bv iv wr => ∃ (k : Nat) (b : Int), k + gk = m ∧ iv = .int .i64 k ∧ bv = .int .i64 b ∧ (b = 1 ∨ b = -1) ∧ lr l p hE k = b ∧ Below w2.heap.size w2 wr)
    case atStart => exact ⟨0, -1, Nat.zero_add _, rfl, rfl, .inr rfl, rfl, Below.refl _ _⟩
    case round =>
      obtain ⟨k, b, hk, rfl, rfl, hb, hlr, hbel⟩ := hrel
      by_cases hlt : k < m
      · have i1 : ((k : Int) < m) := by omega
        have z1 : (0 : Int) ≤ (k : Int) := by omega
        obtain ⟨c1, c2, c3, c4'⟩ := HW.out.2.1 k hlt
        have c1 := cell_to c1 hbel
        have c2 := cell_to c2 hbel
        have c3 := cell_to c3 hbel
        have c4' := cell_to c4' hbel
        have hbx := HW.out.2.2.to hbel
        have k5 : ∀ O, (wr.alloc O).cell? ⟨w.heap.size, 0, none⟩ = some (.int .i64 p.x) := fun O => cell_to (hbx.c 0 _ rfl) (alloc_below _ _)
        have k6 : ∀ O, (wr.alloc O).cell? ⟨w.heap.size, 1, none⟩ = some (.int .i64 p.y) := fun O => cell_to (hbx.c 1 _ rfl) (alloc_below _ _)
        have hst := lr_succ l p hE k
        rw [hlr] at hst
        have HX := fun W => H.out.2.2.2.2 k W
        obtain ⟨u, hu⟩ : ∃ p, (sg l k).1 = p := ⟨_, rfl⟩
        obtain ⟨q, hq⟩ : ∃ q, (sg l k).2 = q := ⟨_, rfl⟩
        rw [hu] at c1 c2 hst
        rw [hq] at c3 c4' hst
        simp only [hu, hq] at HX
        have hb1 : -1 ≤ b ∧ b ≤ 1 := by omega
        obtain ⟨hb1, hb2⟩ := hb1
        cases hcx : crX u q p with
        | true =>
          rw [hcx, if_pos rfl] at hst
          rw [hcx] at HX
          have HE := Lib.hid (And.intro hst (And.intro hbel (And.intro HX hb)))
          clear hst hbel HX hu hq hbx hlr hb hcx
          go_wp2_with fail
          refine (HE.out.2.2.1 _).mono ?_
          rintro e w3 ⟨rfl, hb3⟩
          have hb4 := HE.out.2.1.trans ((below_trans (alloc_below _ _) hb3).mono HE.out.2.1.size)
          have HZ := Lib.hid hb4; clear hb3 hb4
          go_wp2_with fail
          go_roundg (gk - 1)
          case measure => omega
          case rel => exact ⟨k + 1, -b, by omega, by go_num, rfl, by have := HE.out.2.2.2; omega, HE.out.1, HZ.out⟩
        | false =>
          rw [hcx, if_neg (by simp)] at hst
          rw [hcx] at HX
          have HE := Lib.hid (And.intro hst (And.intro hbel (And.intro HX hb)))
          clear hst hbel HX hu hq hbx hlr hb hcx
          go_wp2_with fail
          refine (HE.out.2.2.1 _).mono ?_
          rintro e w3 ⟨rfl, hb3⟩
          have hb4 := HE.out.2.1.trans ((below_trans (alloc_below _ _) hb3).mono HE.out.2.1.size)
          have HZ := Lib.hid hb4; clear hb3 hb4
          go_wp2_with fail
          go_roundg (gk - 1)
          case measure => omega
          case rel => exact ⟨k + 1, b, by omega, by go_num, rfl, HE.out.2.2.2, HE.out.1, HZ.out⟩
      · have hkm : k = m := by omega
        have HE := Lib.hid (And.intro hlr (And.intro hbel hkm))
        clear hlr hbel hkm hb
        go_wp2_with fail
        go_ret
        exact ⟨ret_i (by rw [← HE.out.1, HE.out.2.2]), HW.out.1.trans (HE.out.2.1.mono HW.out.1.size)⟩

theorem inV_err {l : List P2} {p : P2} (h : nErr l true p ≠ 0) : inV l p = 0 := by unfold inV; rw [if_neg h]

set_option maxRecDepth 100000 in
set_option maxHeartbeats 4000000 in
theorem rInside_calls (l : List P2) (a : Option Addr) (cap : Nat) (p : P2) (w : World) (hT : Sl2 w a l) (hn : l.length ≤ 1000000) :
    Calls Tryz.prog 33 #[.slice a l.length cap, V p] w fun e w' => e = .returned (.tuple #[.int .i64 (inV l p), .int .i64 (nErr l true p)]) ∧ Below w.heap.size w w' := by
  have hal := alloc_below w (B2 p 23)
  have HC := pcheckR_calls l a cap true (w.alloc (B2 p 23)) (hT.to hal) hn
  have hx := blk_new w #[.int .i64 p.x, .int .i64 p.y] 23
  by_cases hE : pErr l true = 0
  · rw [hE] at HC
    cases hp : flatB p with
    | true =>
      have h3 : nErr l true p = 0 := by unfold nErr; rw [if_pos hE, if_pos hp]
      have h4 : inV l p = locV l p := by unfold inV; rw [if_pos h3]
      rw [h3, h4]
      have HL := fun W hT => rloc_calls l a cap p W hT hE hp
      have HR := fun w => right_calls p w
      rw [hp] at HR
      generalize locV l p = lv at HL ⊢
      have H := Lib.hid (And.intro hT (And.intro hal (And.intro hx (And.intro HL HR))))
      clear hT hal hx HL HR hp hE h3 h4
      go_enter Tryz.func33, Tryz.ntmps33
      go_wp2_with fail
      refine HC.mono ?_
      rintro e w1 ⟨rfl, hb1⟩
      clear HC
      have g1 := H.out.2.2.1.to hb1
      have c1 := g1.c 0 _ rfl
      have c2 := g1.c 1 _ rfl
      have HQ := Lib.hid (And.intro (below_trans H.out.2.1 hb1) g1); clear hb1 g1
      go_wp2_with fail
      refine (H.out.2.2.2.2 _).mono ?_
      rintro e w2 ⟨rfl, hb2⟩
      clear c1 c2
      have g1 := HQ.out.2.to hb2
      have c1 := g1.c 0 _ rfl
      have c2 := g1.c 1 _ rfl
      have HR2 := Lib.hid (below_trans HQ.out.1 hb2); clear hb2 g1
      go_wp2_with fail
      refine (H.out.2.2.2.1 _ (H.out.1.to HR2.out)).mono ?_
      rintro e w3 ⟨rfl, hb3⟩
      go_wp2_with fail
      go_ret2
      exact ⟨rfl, below_trans HR2.out hb3⟩
    | false =>
      have h3 : nErr l true p = 2 := by unfold nErr; rw [if_pos hE, if_neg (by simp [hp])]
      have h4 : inV l p = 0 := inV_err (by rw [h3]; decide)
      rw [h3, h4]
      have HR := fun w => right_calls p w
      rw [hp] at HR
      have H := Lib.hid (And.intro hal (And.intro hx HR))
      clear hT hal hx HR hp hE h3 h4
      go_enter Tryz.func33, Tryz.ntmps33
      go_wp2_with fail
      refine HC.mono ?_
      rintro e w1 ⟨rfl, hb1⟩
      clear HC
      have g1 := H.out.2.1.to hb1
      have c1 := g1.c 0 _ rfl
      have c2 := g1.c 1 _ rfl
      have HQ := Lib.hid (below_trans H.out.1 hb1); clear hb1 g1
      go_wp2_with fail
      refine (H.out.2.2 _).mono ?_
      rintro e w2 ⟨rfl, hb2⟩
      go_wp2_with fail
      go_ret2
      exact ⟨rfl, below_trans HQ.out hb2⟩
  · have h3 : nErr l true p = pErr l true := by unfold nErr; rw [if_neg hE]
    rw [inV_err (by rw [h3]; exact hE), h3]
    generalize pErr l true = er at HC hE ⊢
    have H := Lib.hid hal
    clear hT hal hx h3
    go_enter Tryz.func33, Tryz.ntmps33
    go_wp2_with fail
    refine HC.mono ?_
    rintro e w1 ⟨rfl, hb1⟩
    clear HC
    go_wp2_with fail
    go_ret2
    exact ⟨rfl, below_trans H.out hb1⟩

end Go.Proofs.YtgdlfjofefhdoaaGreatDoor
