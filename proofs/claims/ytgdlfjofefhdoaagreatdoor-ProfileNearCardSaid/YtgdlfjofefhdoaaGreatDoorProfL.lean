/- Package profile: Within. -/
import Derived.Test.YtgdlfjofefhdoaaGreatDoorSegE
namespace Go.Proofs.YtgdlfjofefhdoaaGreatDoor
open Go.RowKit Go.Sort Go.Lib Go.Shelf Mb

attribute [local go_sem] Oper.semAt_some

/-- what Within answers -/
def wiE (l : List P2) (c : Bool) (p : P2) (t : Int) : Int := if nErr l c p = 0 then (if tolB t = true then 0 else 2) else nErr l c p
def wiV (l : List P2) (c : Bool) (p : P2) (t : Int) : Bool := if wiE l c p t = 0 then !(ndB t 2 (nrst l c p)) else false

theorem nErr_0 {l : List P2} {c : Bool} {p : P2} (h : nErr l c p = 0) : pErr l c = 0 ∧ flatB p = true := by
  unfold nErr at h
  split at h
  · rename_i h1
    split at h
    · rename_i h2; exact ⟨h1, h2⟩
    · cases h
  · rename_i h1; exact absurd h h1
theorem tolE_1b (t : Int) : tolE [t] = if tolB t = true then 0 else 2 := by
  unfold tolE
  cases h : tolB t <;> simp [h]
theorem idxL_one (b : Nat → Bool) : idxL b 1 = if b 0 = true then [0] else [] := by
  unfold idxL
  cases h : b 0 <;> simp [List.range_succ, h]

/-- Outside of one right point -/
theorem out_one {l : List P2} {c : Bool} {p : P2} {t : Int} (h : nErr l c p = 0) : outE l c [p] t = (if tolB t = true then 0 else 2) ∧ outL l c [p] t = (if tolB t = true then (if ndB t 2 (nrst l c p) = true then [0] else []) else []) := by
  obtain ⟨h1, h2⟩ := nErr_0 h
  have e1 : errL [p] = 0 := by rw [errL_one, if_pos h2]
  have e2 : outE l c [p] t = (if tolB t = true then 0 else 2) := by unfold outE; rw [if_pos h1, if_pos e1, tolE_1b]
  refine ⟨e2, ?_⟩
  unfold outL
  rw [e2]
  cases ht : tolB t with
  | true =>
    rw [if_pos rfl, if_pos rfl, if_pos rfl, show ([p] : List P2).length = 1 from rfl, idxL_one]
    have e3 : btO l c [p] t 2 0 = ndB t 2 (nrst l c p) := by
      unfold btO
      rw [btB_eq (by omega)]
      rfl
    rw [e3]
  | false => simp

set_option maxRecDepth 100000 in
set_option maxHeartbeats 4000000 in
theorem pWithin_ok (l : List P2) (a : Option Addr) (cap : Nat) (c : Bool) (p : P2) (t : Int) (w : World) (hg : Good w) (hT : Sl2 w a l) (hn : l.length ≤ 1000000) (hE : nErr l c p = 0) :
    Calls Tryz.prog 36 #[.slice a l.length cap, .bool c, V p, .int .i64 t] w fun e w' => e = .returned (.tuple #[.bool (wiV l c p t), .int .i64 (wiE l c p t)]) ∧ Below w.heap.size w w' := by
  have hal := alloc_below w (B2 p 23)
  have HC := pcheck_calls l a cap c (w.alloc (B2 p 23)) (hT.to hal) hn
  have hx := blk_new w #[.int .i64 p.x, .int .i64 p.y] 23
  obtain ⟨hp, hf⟩ := nErr_0 hE
  have h1 : errL [p] = 0 := by rw [errL_one, if_pos hf]
  rw [hp] at HC
  obtain ⟨o1, o2⟩ := out_one (t := t) hE
  have hwe : wiE l c p t = (if tolB t = true then 0 else 2) := by unfold wiE; rw [if_pos hE]
  have HO := fun (W : World) hg hT hP => pOutside_calls l [p] a (some ⟨W.heap.size, 0, none⟩) cap 1 c t (W.alloc (.cells #[.int .i64 p.x, .int .i64 p.y] 23)) hg hT hP hn (by simp)
  rw [show ([p] : List P2).length = 1 from rfl] at HO
  have hcase : (∃ v, tolB t = v) := ⟨_, rfl⟩
  rw [o1, o2] at HO
  have hwv : wiV l c p t = (if tolB t = true then !(ndB t 2 (nrst l c p)) else false) := by
    unfold wiV; rw [hwe]
    cases tolB t <;> simp
  rw [hwe, hwv]
  generalize ndB t 2 (nrst l c p) = nb at HO ⊢
  generalize tolB t = tb at HO ⊢
  have HI := Lib.hid (And.intro hg (And.intro hT (And.intro h1 (And.intro hal hx))))
  clear hg hT h1 hp hf hal hx hE o1 o2 hwe hwv hcase
  cases tb with
  | false =>
    simp only [Bool.false_eq_true, if_false] at HO ⊢
    have HP := Lib.hid HO; clear HO
    go_enter Tryz.func36, Tryz.ntmps36
    go_wp2_with fail
    refine HC.mono ?_
    rintro e w1 ⟨rfl, hb1⟩
    clear HC
    have hb0 := below_trans HI.out.2.2.2.1 hb1
    have g1 := HI.out.2.2.2.2.to hb1
    have c1 := g1.c 0 _ rfl
    have c2 := g1.c 1 _ rfl
    have HQ := Lib.hid (And.intro hb0 g1); clear hb0 g1 hb1
    go_wp2_with fail
    have hbs := alloc_below w1 (.cells #[.int .i64 p.x, .int .i64 p.y] 23)
    have H2 := checkP_calls [p] (some ⟨w1.heap.size, 0, none⟩) 1 _ (pts_new1 w1 p 23) (by simp)
    rw [HI.out.2.2.1] at H2
    refine H2.mono ?_
    rintro e w2 ⟨rfl, hb2⟩
    clear H2 c1 c2
    have hb3 := below_trans hbs hb2
    have g2 := HQ.out.2.to hb3
    have c1 := g2.c 0 _ rfl
    have c2 := g2.c 1 _ rfl
    have hb4 := below_trans (below_trans HQ.out.1 hb3) (alloc_below w2 (.cells #[.int .i64 p.x, .int .i64 p.y] 23))
    have HR := Lib.hid hb4; clear hb4 hb3 hb2 hbs g2
    go_wp2_with fail
    refine (HP.out w2 (HI.out.1.to HR.out) (HI.out.2.1.to HR.out) (pts_new1 w2 p 23)).mono ?_
    rintro e w3 ⟨⟨v, rfl, hv⟩, hb5⟩
    go_wp2_with fail
    go_ret2
    exact ⟨rfl, below_trans HR.out hb5⟩
  | true =>
    simp only [if_true] at HO ⊢
    cases nb with
    | true =>
      simp only [if_true] at HO ⊢
      have HP := Lib.hid HO; clear HO
      go_enter Tryz.func36, Tryz.ntmps36
      go_wp2_with fail
      refine HC.mono ?_
      rintro e w1 ⟨rfl, hb1⟩
      clear HC
      have hb0 := below_trans HI.out.2.2.2.1 hb1
      have g1 := HI.out.2.2.2.2.to hb1
      have c1 := g1.c 0 _ rfl
      have c2 := g1.c 1 _ rfl
      have HQ := Lib.hid (And.intro hb0 g1); clear hb0 g1 hb1
      go_wp2_with fail
      have hbs := alloc_below w1 (.cells #[.int .i64 p.x, .int .i64 p.y] 23)
      have H2 := checkP_calls [p] (some ⟨w1.heap.size, 0, none⟩) 1 _ (pts_new1 w1 p 23) (by simp)
      rw [HI.out.2.2.1] at H2
      refine H2.mono ?_
      rintro e w2 ⟨rfl, hb2⟩
      clear H2 c1 c2
      have hb3 := below_trans hbs hb2
      have g2 := HQ.out.2.to hb3
      have c1 := g2.c 0 _ rfl
      have c2 := g2.c 1 _ rfl
      have hb4 := below_trans (below_trans HQ.out.1 hb3) (alloc_below w2 (.cells #[.int .i64 p.x, .int .i64 p.y] 23))
      have HR := Lib.hid hb4; clear hb4 hb3 hb2 hbs g2
      go_wp2_with fail
      refine (HP.out w2 (HI.out.1.to HR.out) (HI.out.2.1.to HR.out) (pts_new1 w2 p 23)).mono ?_
      rintro e w3 ⟨⟨v, rfl, ⟨ar, cr, rfl, -⟩⟩, hb5⟩
      go_wp2_with fail
      go_ret2
      exact ⟨rfl, below_trans HR.out hb5⟩
    | false =>
      simp only [Bool.false_eq_true, if_false] at HO ⊢
      have HP := Lib.hid HO; clear HO
      go_enter Tryz.func36, Tryz.ntmps36
      go_wp2_with fail
      refine HC.mono ?_
      rintro e w1 ⟨rfl, hb1⟩
      clear HC
      have hb0 := below_trans HI.out.2.2.2.1 hb1
      have g1 := HI.out.2.2.2.2.to hb1
      have c1 := g1.c 0 _ rfl
      have c2 := g1.c 1 _ rfl
      have HQ := Lib.hid (And.intro hb0 g1); clear hb0 g1 hb1
      go_wp2_with fail
      have hbs := alloc_below w1 (.cells #[.int .i64 p.x, .int .i64 p.y] 23)
      have H2 := checkP_calls [p] (some ⟨w1.heap.size, 0, none⟩) 1 _ (pts_new1 w1 p 23) (by simp)
      rw [HI.out.2.2.1] at H2
      refine H2.mono ?_
      rintro e w2 ⟨rfl, hb2⟩
      clear H2 c1 c2
      have hb3 := below_trans hbs hb2
      have g2 := HQ.out.2.to hb3
      have c1 := g2.c 0 _ rfl
      have c2 := g2.c 1 _ rfl
      have hb4 := below_trans (below_trans HQ.out.1 hb3) (alloc_below w2 (.cells #[.int .i64 p.x, .int .i64 p.y] 23))
      have HR := Lib.hid hb4; clear hb4 hb3 hb2 hbs g2
      go_wp2_with fail
      refine (HP.out w2 (HI.out.1.to HR.out) (HI.out.2.1.to HR.out) (pts_new1 w2 p 23)).mono ?_
      rintro e w3 ⟨⟨v, rfl, ⟨ar, cr, rfl, -⟩⟩, hb5⟩
      go_wp2_with fail
      go_ret2
      exact ⟨rfl, below_trans HR.out hb5⟩

set_option maxRecDepth 100000 in
set_option maxHeartbeats 4000000 in
theorem pWithin_calls (l : List P2) (a : Option Addr) (cap : Nat) (c : Bool) (p : P2) (t : Int) (w : World) (hg : Good w) (hT : Sl2 w a l) (hn : l.length ≤ 1000000) :
    Calls Tryz.prog 36 #[.slice a l.length cap, .bool c, V p, .int .i64 t] w fun e w' => e = .returned (.tuple #[.bool (wiV l c p t), .int .i64 (wiE l c p t)]) ∧ Below w.heap.size w w' := by
  by_cases hE : nErr l c p = 0
  · exact pWithin_ok l a cap c p t w hg hT hn hE
  · have hwe : wiE l c p t = nErr l c p := by unfold wiE; rw [if_neg hE]
    have hwv : wiV l c p t = false := by unfold wiV; rw [hwe, if_neg hE]
    rw [hwe, hwv]
    have hal := alloc_below w (B2 p 23)
    have HC := pcheck_calls l a cap c (w.alloc (B2 p 23)) (hT.to hal) hn
    have hx := blk_new w #[.int .i64 p.x, .int .i64 p.y] 23
    clear hwe hwv
    by_cases hp : pErr l c = 0
    · have hf : flatB p = false := by
        cases h : flatB p with
        | false => rfl
        | true => exact absurd (by unfold nErr; rw [if_pos hp, if_pos h]) hE
      have h2 : nErr l c p = 2 := by unfold nErr; rw [if_pos hp, if_neg (by simp [hf])]
      have h1 : errL [p] = 2 := by rw [errL_one, if_neg (by simp [hf])]
      rw [h2]
      rw [hp] at HC
      have H := Lib.hid (And.intro hT (And.intro h1 (And.intro hal hx)))
      clear hg hT h1 hp hf hal hx hE h2
      go_enter Tryz.func36, Tryz.ntmps36
      go_wp2_with fail
      refine HC.mono ?_
      rintro e w1 ⟨rfl, hb1⟩
      clear HC
      have hb0 := below_trans H.out.2.2.1 hb1
      have g1 := H.out.2.2.2.to hb1
      have c1 := g1.c 0 _ rfl
      have c2 := g1.c 1 _ rfl
      have HQ := Lib.hid hb0; clear hb0 g1 hb1
      go_wp2_with fail
      have hbs := alloc_below w1 (.cells #[.int .i64 p.x, .int .i64 p.y] 23)
      have H2 := checkP_calls [p] (some ⟨w1.heap.size, 0, none⟩) 1 _ (pts_new1 w1 p 23) (by simp)
      rw [H.out.2.1] at H2
      refine H2.mono ?_
      rintro e w2 ⟨rfl, hb2⟩
      clear H2 c1 c2
      go_wp2_with fail
      go_ret2
      exact ⟨rfl, below_trans (below_trans HQ.out hbs) hb2⟩
    · have h2 : nErr l c p = pErr l c := by unfold nErr; rw [if_neg hp]
      rw [h2]
      generalize pErr l c = er at HC hp ⊢
      have H := Lib.hid (And.intro hal hx)
      clear hg hT hal hx hE h2
      go_enter Tryz.func36, Tryz.ntmps36
      go_wp2_with fail
      refine HC.mono ?_
      rintro e w1 ⟨rfl, hb1⟩
      clear HC
      go_wp2_with fail
      go_ret2
      exact ⟨rfl, below_trans H.out.1 hb1⟩

end Go.Proofs.YtgdlfjofefhdoaaGreatDoor
