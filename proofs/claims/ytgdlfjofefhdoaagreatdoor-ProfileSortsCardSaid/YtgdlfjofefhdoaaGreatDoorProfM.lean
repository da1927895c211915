/- Package profile: Worst. -/
import Derived.Test.YtgdlfjofefhdoaaGreatDoorProfI
namespace Go.Proofs.YtgdlfjofefhdoaaGreatDoor
open Go.RowKit Go.Sort Go.Lib Go.Shelf Mb

attribute [local go_sem] Oper.semAt_some

/-- the worst point so far: its distance and index -/
def wstep (b : Option (Int × Int × Nat)) (k : Nat) (x : Int × Int × Nat) : Int × Int × Nat :=
  match b with
  | none => x
  | some (n, d, _) => if x.1 * d < n * x.2.1 then (n, d, k) else x
def wfl (l : List P2) (c : Bool) (pts : List P2) (s : Int × Int × Nat) : Nat → Int × Int × Nat
  | 0 => s
  | k + 1 => wstep (nrst l c (g2 pts k)) k (wfl l c pts s k)

/-- a worst distance: a right number of bounded size, or -1 -/
structure Wst (n d : Int) : Prop where
  r : Rat2 n d
  n0 : -1 ≤ n
  n1 : n ≤ 10000000000000000000000
  d1 : d ≤ 80000000000
theorem Wst.of {n d : Int} (h : Dst n d) : Wst n d := ⟨h.r, by have := h.n0; omega, h.n1, h.d1⟩
theorem wst_start : Wst (-1) 1 := ⟨⟨by omega, by decide, by have := dg_of_lt (n := -1) (k := 1) (by omega) (by decide); omega, by have := dg_of_lt (n := 1) (k := 1) (by omega) (by decide); omega⟩, by omega, by omega, by omega⟩
theorem wst_zero : Wst 0 1 := ⟨⟨by omega, by decide, by have := dg_of_lt (n := 0) (k := 1) (by omega) (by decide); omega, by have := dg_of_lt (n := 1) (k := 1) (by omega) (by decide); omega⟩, by omega, by omega, by omega⟩

theorem wst_mul {n d m e : Int} (h : Wst n d) (k : Wst m e) : (dg (n * e)).length ≤ 900 := by
  have h1 := h.n0; have h2 := h.n1; have h3 := k.d1; have h4 := k.r.pos
  have hm := Mb.mul_bd (A := 10000000000000000000000) (C := 80000000000) (a := n) (b := e) (by omega) (by omega)
  generalize n * e = z at *
  have := dg_of_lt (n := z) (k := 37) (by omega) (by omega)
  omega

theorem orderW_calls (n d m e : Int) (w : World) (hg : Good w) (h : Wst n d) (k : Wst m e) :
    Calls Tryz.prog 103 #[R n d, R m e] w fun r w' => r = .returned (.int .i64 (cmp3 (n * e) (m * d))) ∧ Below w.heap.size w w' := by
  have H := rcompare_calls n d m e w hg h.r k.r (by have := wst_mul h k; omega) (by have := wst_mul k h; omega)
  clear h k hg
  go_enter Tryz.func103, Tryz.ntmps103
  go_wp2_with fail
  refine H.mono ?_
  rintro e w1 ⟨rfl, hb1⟩
  clear H
  go_wp2_with fail
  go_ret
  exact ⟨rfl, hb1⟩

theorem wfl_ok {l : List P2} {c : Bool} {pts : List P2} (hpe : errOf pts = 0) {s : Int × Int × Nat} (hs : Wst s.1 s.2.1) (k : Nat) : Wst (wfl l c pts s k).1 (wfl l c pts s k).2.1 := by
  induction k with
  | zero => exact hs
  | succ k ih =>
    show Wst (wstep (nrst l c (g2 pts k)) k (wfl l c pts s k)).1 (wstep (nrst l c (g2 pts k)) k (wfl l c pts s k)).2.1
    have hok := nrst_ok (l := l) (c := c) (g2_flat hpe k)
    cases hb : nrst l c (g2 pts k) with
    | none => exact ih
    | some b =>
      obtain ⟨n, d, j⟩ := b
      rw [hb] at hok
      unfold wstep
      simp only
      split
      · exact Wst.of hok.1
      · exact ih

/-- the memory of Worst: the best distance and its index, in two blocks -/
structure WM (l : List P2) (c : Bool) (pts : List P2) (B k : Nat) (W : World) : Prop where
  b : Blk W B #[R (wfl l c pts (-1, 1, 0) k).1 (wfl l c pts (-1, 1, 0) k).2.1] 24
  a : Blk W (B + 1) #[.int .i64 ((wfl l c pts (-1, 1, 0) k).2.2 : Int)] 3

theorem wst_gt {n d m e : Int} : 0 < cmp3 (n * e) (m * d) ↔ m * d < n * e := by
  unfold cmp3
  split
  · omega
  · split <;> omega

set_option maxHeartbeats 3200000 in
theorem wT_calls (l pts : List P2) (c : Bool) (B k n₀ base : Nat) (W : World) (hg : Good W) (hM : WM l c pts B k W) (he : pErr l c = 0) (hpe : errOf pts = 0) (h0 : n₀ ≤ B) (hb : B + 1 < base) (hbw : base ≤ W.heap.size) :
    Calls Tryz.prog 102 #[.int .i64 k, bV (nrst l c (g2 pts k)), .pointer (some ⟨B, 0, none⟩), .pointer (some ⟨B + 1, 0, none⟩)] W fun e W' => e = .returned (.bool false) ∧ WM l c pts B (k + 1) W' ∧ Kp n₀ base W W' := by
  obtain ⟨⟨n, d, j⟩, hn⟩ := nrst_some (p := g2 pts k) he
  have hok := nrst_ok (l := l) (c := c) (g2_flat hpe k)
  rw [hn] at hok ⊢
  have hw := wfl_ok (l := l) (c := c) hpe (s := (-1, 1, 0)) wst_start k
  have hs : wfl l c pts (-1, 1, 0) (k + 1) = wstep (some (n, d, j)) k (wfl l c pts (-1, 1, 0) k) := by rw [← hn]; rfl
  have hMb := hM.b
  have hMa := hM.a
  have HW : WM l c pts B (k + 1) = fun W' => Blk W' B #[R (wfl l c pts (-1, 1, 0) (k + 1)).1 (wfl l c pts (-1, 1, 0) (k + 1)).2.1] 24 ∧ Blk W' (B + 1) #[.int .i64 ((wfl l c pts (-1, 1, 0) (k + 1)).2.2 : Int)] 3 := by
    funext W'
    exact propext ⟨fun h => ⟨h.b, h.a⟩, fun h => ⟨h.1, h.2⟩⟩
  rw [HW, hs]
  obtain ⟨⟨m, e, i⟩, hwf⟩ : ∃ x, wfl l c pts (-1, 1, 0) k = x := ⟨_, rfl⟩
  rw [hwf] at hw hMb hMa ⊢
  simp only at hw hMb hMa
  have HO := fun W hg => orderW_calls n d m e W hg (Wst.of hok.1) hw
  show Calls _ _ #[_, R n d, _, _] _ _
  obtain ⟨sx, hsx⟩ : ∃ s, R n d = .string s := ⟨_, rfl⟩
  obtain ⟨sb, hsb⟩ : ∃ s, R m e = .string s := ⟨_, rfl⟩
  rw [hsx, hsb] at HO
  rw [hsb] at hMb
  rw [hsx]
  have hcb := cmp3_bd (n * e) (m * d)
  have k1 := hMb.c 0 _ rfl
  by_cases hlt : m * d < n * e
  · have ho : cmp3 (n * e) (m * d) = 1 := by unfold cmp3; rw [if_neg (by omega), if_pos hlt]
    rw [ho] at HO
    have hst : wstep (some (n, d, j)) k (m, e, i) = (n, d, k) := by unfold wstep; simp only; rw [if_pos hlt]
    rw [hst]
    simp only [hsx]
    have H := Lib.hid (And.intro hg (And.intro hMb (And.intro hMa HO)))
    clear hg hM he hpe hok hn hw hs hMb hMa HW hwf HO hsx hsb hcb ho hst hlt
    go_enter Tryz.func102, Tryz.ntmps102
    go_wp2_with fail
    refine (H.out.2.2.2 _ H.out.1).mono ?_
    rintro r w1 ⟨rfl, hb1⟩
    have hB := H.out.2.1.to hb1
    have hA := H.out.2.2.1.to hb1
    have d1 := hB.c 0 _ rfl
    have d2 := hB.free 0
    have d3 := hA.c 0 _ rfl
    have d4 := hA.free 0
    have HQ := Lib.hid (And.intro hb1 (And.intro hB hA)); clear hb1 hB hA
    clear k1
    go_wp2_with fail
    go_ret
    refine ⟨rfl, ⟨blk_other (blk_set1 HQ.out.2.1) (by omega), blk_set1 (blk_other HQ.out.2.2 (by omega))⟩, ?_⟩
    refine (Kp.of HQ.out.1 (by omega)).trans ⟨((Below.refl n₀ w1).setCell (p := ⟨B, 0, none⟩) (by show n₀ ≤ B; omega) _).setCell (p := ⟨B + 1, 0, none⟩) (by show n₀ ≤ B + 1; omega) _, fun b hbb hlt => ?_⟩
    rw [(grownBy_setCell' _ (B + 1) _).block b (by simpa using hlt) (fun e => by cases e; omega), (grownBy_setCell' _ B _).block b hlt (fun e => by cases e; omega)]
  · have hst : wstep (some (n, d, j)) k (m, e, i) = (m, e, i) := by unfold wstep; simp only; rw [if_neg hlt]
    rw [hst]
    simp only [hsb]
    have ho : ¬ 0 < cmp3 (n * e) (m * d) := fun h => hlt (wst_gt.1 h)
    generalize cmp3 (n * e) (m * d) = o at HO ho hcb
    have d0 : decide (0 < o) = false := decide_eq_false ho
    have H := Lib.hid (And.intro hg (And.intro hMb (And.intro hMa HO)))
    clear hg hM he hpe hok hn hw hs hMb hMa HW hwf HO hsx hsb hst hlt
    go_enter Tryz.func102, Tryz.ntmps102
    go_wp2_with fail
    refine (H.out.2.2.2 _ H.out.1).mono ?_
    rintro r w1 ⟨rfl, hb1⟩
    go_wp2_with fail
    go_ret
    exact ⟨rfl, ⟨H.out.2.1.to hb1, H.out.2.2.1.to hb1⟩, Kp.of hb1 (by omega)⟩

end Go.Proofs.YtgdlfjofefhdoaaGreatDoor
