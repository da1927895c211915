/- Package profile: Nearest. -/
import Derived.Test.YtgdlfjofefhdoaaGreatDoorProfC
namespace Go.Proofs.YtgdlfjofefhdoaaGreatDoor
open Go.RowKit Go.Sort Go.Lib Go.Shelf Mb

attribute [local go_sem] Oper.semAt_some

/-- the nearest segment of a right polyline -/
def nrst (l : List P2) (c : Bool) (p : P2) : Option (Int × Int × Nat) := if h : errOf l = 0 then nfold p (upto (sq3 l h) (segM l.length c)) else none
theorem nrst_ok {l : List P2} {c : Bool} {p : P2} (hp : flatB p = true) : okB (nrst l c p) := by
  unfold nrst
  split
  · rename_i h
    generalize upto (sq3 l h) (segM l.length c) = L
    have : ∀ (L : List E3) (b : Option (Int × Int × Nat)), okB b → okB ((L.map fun x => x.1).foldl (nstep p) b) := fun L => by
      induction L with
      | nil => exact fun _ h => h
      | cons x L ih => exact fun b hb => ih _ (okB_step hp hb)
    exact this L none trivial
  · exact trivial

/-- a polyline that is right -/
theorem pErr_ok {l : List P2} {c : Bool} (h : pErr l c = 0) : l.length ≤ 64 ∧ errOf l = 0 ∧ 2 ≤ l.length ∧ (c = true → 3 ≤ l.length) ∧ twB l c = false := by
  unfold pErr at h
  split at h
  · rename_i h0
    obtain ⟨h1, h2⟩ := errL_ok h0
    split at h
    · cases h
    · rename_i h3
      refine ⟨h1, h2, by omega, fun e => Nat.le_of_not_lt fun h => h3 (.inr ⟨e, h⟩), ?_⟩
      unfold twE at h
      split at h
      · cases h
      · rename_i h4; simpa using h4
  · rename_i h0; exact absurd h h0

theorem pnear_calls' (l : List P2) (a : Option Addr) (cap : Nat) (c : Bool) (p : P2) (w : World) (hg : Good w) (hT : Sl2 w a l) (hn : l.length ≤ 64) (he : errOf l = 0) (hp : flatB p = true) :
    Calls Tryz.prog 90 #[.slice a l.length cap, .bool c, V p] w fun e w' => e = .returned (.tuple #[bV (nrst l c p), aV (nrst l c p), .int .i64 0]) ∧ Below w.heap.size w w' := by
  unfold nrst; rw [dif_pos he]; exact pnear_calls l a cap c p w hg hT hn he hp

theorem pts_new1 (w : World) (a : P2) (t : TypeId) : Sl2 (w.alloc (.cells #[.int .i64 a.x, .int .i64 a.y] t)) (some ⟨w.heap.size, 0, none⟩) [a] := by
  intro i h
  have hi : i = 0 := by simp at h; omega
  subst hi
  exact ⟨_, _, rfl, by simp, cell_new _ _ _ _ _ rfl, cell_new _ _ _ _ _ rfl⟩

theorem errL_one (p : P2) : errL [p] = if flatB p = true then 0 else 2 := by
  unfold errL errOf
  rw [if_neg (by simp)]
  cases h : flatB p <;> simp [h]

/-- the error of a polyline and a point -/
def nErr (l : List P2) (c : Bool) (p : P2) : Int := if pErr l c = 0 then (if flatB p = true then 0 else 2) else pErr l c
def nV (l : List P2) (c : Bool) (p : P2) : Value := if nErr l c p = 0 then bV (nrst l c p) else .string ⟨#[]⟩
def nI (l : List P2) (c : Bool) (p : P2) : Value := if nErr l c p = 0 then aV (nrst l c p) else .int .i64 0

set_option maxRecDepth 100000 in
set_option maxHeartbeats 4000000 in
theorem pNearest_calls (l : List P2) (a : Option Addr) (cap : Nat) (c : Bool) (p : P2) (w : World) (hg : Good w) (hT : Sl2 w a l) (hn : l.length ≤ 1000000) :
    Calls Tryz.prog 34 #[.slice a l.length cap, .bool c, V p] w fun e w' => e = .returned (.tuple #[nV l c p, nI l c p, .int .i64 (nErr l c p)]) ∧ Below w.heap.size w w' := by
  have hal := alloc_below w (B2 p 23)
  have HC := pcheck_calls l a cap c (w.alloc (B2 p 23)) (hT.to hal) hn
  have hx := blk_new w #[.int .i64 p.x, .int .i64 p.y] 23
  by_cases hE : pErr l c = 0
  · rw [hE] at HC
    have h1 := errL_one p
    have HN := fun (W : World) hg hT hp => pnear_calls' l a cap c p W hg hT (pErr_ok hE).1 (pErr_ok hE).2.1 hp
    obtain ⟨bv, hbv⟩ : ∃ v, bV (nrst l c p) = v := ⟨_, rfl⟩
    obtain ⟨av, hav⟩ : ∃ v, aV (nrst l c p) = v := ⟨_, rfl⟩
    rw [hbv, hav] at HN
    cases hp : flatB p with
    | true =>
      rw [hp, if_pos rfl] at h1
      have h2 : nV l c p = bv ∧ nI l c p = av ∧ nErr l c p = 0 := by
        have h3 : nErr l c p = 0 := by unfold nErr; rw [if_pos hE, if_pos hp]
        refine ⟨?_, ?_, h3⟩
        · unfold nV; rw [if_pos h3, hbv]
        · unfold nI; rw [if_pos h3, hav]
      rw [h2.1, h2.2.1, h2.2.2]
      have H := Lib.hid (And.intro hg (And.intro hT (And.intro h1 (And.intro HN (And.intro hp (And.intro hal hx))))))
      clear hg hT h1 HN hp hal hx h2 hbv hav hE
      go_enter Tryz.func34, Tryz.ntmps34
      go_wp2_with fail
      refine HC.mono ?_
      rintro e w1 ⟨rfl, hb1⟩
      clear HC
      have hb0 := below_trans H.out.2.2.2.2.2.1 hb1
      have g1 := H.out.2.2.2.2.2.2.to hb1
      have c1 := g1.c 0 _ rfl
      have c2 := g1.c 1 _ rfl
      have HQ := Lib.hid (And.intro hb0 g1); clear hb0 g1 hb1
      go_wp2_with fail
      have hbs := alloc_below w1 (.cells #[.int .i64 p.x, .int .i64 p.y] 23)
      have H2 := checkP_calls [p] (some ⟨w1.heap.size, 0, none⟩) 1 _ (pts_new1 w1 p 23) (by simp)
      rw [H.out.2.2.1] at H2
      refine H2.mono ?_
      rintro e w2 ⟨rfl, hb2⟩
      clear H2 c1 c2
      have hb3 := below_trans hbs hb2
      have g2 := HQ.out.2.to hb3
      have c1 := g2.c 0 _ rfl
      have c2 := g2.c 1 _ rfl
      have hb4 := below_trans HQ.out.1 hb3
      have HR := Lib.hid hb4; clear hb4 hb3 hb2 hbs g2
      go_wp2_with fail
      refine (H.out.2.2.2.1 _ (H.out.1.to HR.out) (H.out.2.1.to HR.out) H.out.2.2.2.2.1).mono ?_
      rintro e w3 ⟨rfl, hb5⟩
      go_wp2_with fail
      go_ret3
      exact ⟨rfl, below_trans HR.out hb5⟩
    | false =>
      rw [hp, if_neg (by simp)] at h1
      have h3 : nErr l c p = 2 := by unfold nErr; rw [if_pos hE, if_neg (by simp [hp])]
      have h2 : nV l c p = .string ⟨#[]⟩ ∧ nI l c p = .int .i64 0 ∧ nErr l c p = 2 := by
        refine ⟨?_, ?_, h3⟩
        · unfold nV; rw [if_neg (by rw [h3]; decide)]
        · unfold nI; rw [if_neg (by rw [h3]; decide)]
      rw [h2.1, h2.2.1, h2.2.2]
      have H := Lib.hid (And.intro hT (And.intro h1 (And.intro hal hx)))
      clear hg hT h1 HN hp hal hx h2 hbv hav hE h3
      go_enter Tryz.func34, Tryz.ntmps34
      go_wp2_with fail
      refine HC.mono ?_
      rintro e w1 ⟨rfl, hb1⟩
      clear HC
      have hb0 := below_trans H.out.2.2.1 hb1
      have g1 := H.out.2.2.2.to hb1
      have c1 := g1.c 0 _ rfl
      have c2 := g1.c 1 _ rfl
      have HQ := Lib.hid (And.intro hb0 g1); clear hb0 g1 hb1
      go_wp2_with fail
      have hbs := alloc_below w1 (.cells #[.int .i64 p.x, .int .i64 p.y] 23)
      have H2 := checkP_calls [p] (some ⟨w1.heap.size, 0, none⟩) 1 _ (pts_new1 w1 p 23) (by simp)
      rw [H.out.2.1] at H2
      refine H2.mono ?_
      rintro e w2 ⟨rfl, hb2⟩
      clear H2 c1 c2
      go_wp2_with fail
      go_ret3
      exact ⟨rfl, below_trans (below_trans HQ.out.1 hbs) hb2⟩
  · have h3 : nErr l c p = pErr l c := by unfold nErr; rw [if_neg hE]
    have h2 : nV l c p = .string ⟨#[]⟩ ∧ nI l c p = .int .i64 0 ∧ nErr l c p = pErr l c := by
      refine ⟨?_, ?_, h3⟩
      · unfold nV; rw [if_neg (by rw [h3]; exact hE)]
      · unfold nI; rw [if_neg (by rw [h3]; exact hE)]
    rw [h2.1, h2.2.1, h2.2.2]
    generalize pErr l c = er at HC hE ⊢
    have H := Lib.hid (And.intro hT (And.intro hal hx))
    clear hg hT hal hx h2 h3
    go_enter Tryz.func34, Tryz.ntmps34
    go_wp2_with fail
    refine HC.mono ?_
    rintro e w1 ⟨rfl, hb1⟩
    clear HC
    go_wp2_with fail
    go_ret3
    exact ⟨rfl, below_trans H.out.2.1 hb1⟩

end Go.Proofs.YtgdlfjofefhdoaaGreatDoor
