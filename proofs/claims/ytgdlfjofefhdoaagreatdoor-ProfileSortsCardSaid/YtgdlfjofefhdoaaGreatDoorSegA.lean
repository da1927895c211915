/- The reference's Segments. -/
import Derived.Test.YtgdlfjofefhdoaaGreatDoorProfC
import Derived.Deep.RegionLaw
namespace Go.Proofs.YtgdlfjofefhdoaaGreatDoor
open Go.RowKit Go.Sort Go.Lib Go.Shelf Mb

attribute [local go_sem] Oper.semAt_some

/-- a segment's ends, and the cells of some -/
def sg (l : List P2) (i : Nat) : P2 × P2 := (g2 l i, g2 l ((i + 1) % l.length))
def c4 (s : P2 × P2) : List Value := [.int .i64 s.1.x, .int .i64 s.1.y, .int .i64 s.2.x, .int .i64 s.2.y]
def xsS (l : List P2) (k : Nat) : List Value := (upto (sg l) k).flatMap c4
theorem xsS_succ (l : List P2) (k : Nat) : xsS l (k + 1) = xsS l k ++ c4 (sg l k) := by simp [xsS, upto_succ]
theorem xsS_len (l : List P2) (k : Nat) : (xsS l k).length = k * 4 := by
  induction k with
  | zero => rfl
  | succ k ih => rw [xsS_succ, List.length_append, ih]; simp [c4]; omega
theorem xsS_get (l : List P2) {k i : Nat} (h : i < k) (j : Nat) (hj : j < 4) : (xsS l k)[i * 4 + j]? = (c4 (sg l i))[j]? := by
  induction k with
  | zero => omega
  | succ k ih =>
    rw [xsS_succ]
    by_cases hk : i < k
    · rw [List.getElem?_append_left (by rw [xsS_len]; omega)]; exact ih hk
    · have : i = k := by omega
      subst this
      rw [List.getElem?_append_right (by rw [xsS_len]; omega), xsS_len]
      congr 1; omega

theorem c4_cells (W : World) (t : TypeId) (s : P2 × P2) : ∀ j u, (c4 s)[j]? = some u → (W.alloc (.cells #[.int .i64 s.1.x, .int .i64 s.1.y, .int .i64 s.2.x, .int .i64 s.2.y] t)).cell? ((⟨W.heap.size, 0, none⟩ : Addr).add j) = some u := fun j u h => by
  match j, h with
  | 0, h => simp [c4] at h; subst h; exact cell_new _ _ _ _ _ rfl
  | 1, h => simp [c4] at h; subst h; exact cell_new _ _ _ _ _ rfl
  | 2, h => simp [c4] at h; subst h; exact cell_new _ _ _ _ _ rfl
  | 3, h => simp [c4] at h; subst h; exact cell_new _ _ _ _ _ rfl
  | j + 4, h => simp [c4] at h
theorem c4_one (s : P2 × P2) : ∀ u ∈ c4 s, u.oneCell' = true := fun u h => by
  simp only [c4, List.mem_cons, List.not_mem_nil, or_false] at h
  rcases h with rfl | rfl | rfl | rfl <;> rfl

theorem infoSeg : (Tryz.prog.info? 137).map (fun i => (i.zero, i.size, i.bytes)) = some (some (.agg #[.int .i64 0, .int .i64 0, .int .i64 0, .int .i64 0]), 4, 32) := by kernel_rfl

/-- append to a row of the call's own, as one step of a region that draws -/
theorem step_append_own {P : Program} {ops : Array Oper} {o : Oper} {a : Act} {w : World} {K : Act → World → Prop} {Q : Exit → Act → World → Prop} {E : Prop}
    (hg : o.guard = none) (s x : Operand) (t : TypeId) (hop : o.op = Op.call { callee := Callee.builtin Builtin.append, args := #[s, x], argTypes := #[t, t] })
    (base : Nat) (e : TypeId) (i : TypeInfo) (z : Value) (size bytes : Nat) (ht : P.underlying t = some (.slice e)) (hi : P.info? e = some i) (hz : i.zero = some z)
    (hsize : i.size = size) (hby : i.bytes = bytes) (hzs : z.cells.size = size) (hsz : 0 < size)
    (v : Value) (n : Nat) (xs : List Value) (hs : a.eval s = v) (hown : w.ownsRow base e size v n xs)
    (ad : Addr) (m c : Nat) (news : List Value) (hx : a.eval x = .slice (some ad) m c) (hl : news.length = m * size) (hnews : ∀ j u, news[j]? = some u → w.cell? (ad.add j) = some u) (h1 : ∀ u ∈ news, u.oneCell' = true)
    (h63 : n + m ≤ maxLen) (hbytes : (n + m) * bytes ≤ 140737488355328) (hbase : base ≤ w.heap.size)
    (hK : ∀ v' w', w'.ownsRow base e size v' (n + m) (xs ++ news) → w.grownBy w' v.ownBlock → K (a.put o.dst v') w') :
    if Region.wanted o (yielded ops a.tmps) = true then Oper.wp P o a w K Q else E := by
  have hw : Region.wanted o (yielded ops a.tmps) = true := by simp [Region.wanted, hg]
  rw [if_pos hw]
  obtain ⟨v', w', hrun, r1, r2, _⟩ := run_append_own (P := P) w base t o.type e i z size bytes ht hi hz hsize hby hzs hsz v n xs hown ad m c news hl hnews h1 h63 hbytes hbase
  unfold Oper.wp
  simp [execOp, hop, resolve, invoke, builtin, hs, hx, hrun, Result.andThen]
  exact hK v' w' r1 r2

set_option maxRecDepth 100000 in
set_option maxHeartbeats 3200000 in
theorem segs_calls (l : List P2) (a : Option Addr) (cap : Nat) (c : Bool) (w : World) (hT : Sl2 w a l) (h1 : 1 ≤ l.length) (h2 : l.length ≤ 64) :
    Calls Tryz.prog 95 #[.slice a l.length cap, .bool c] w fun e w' => (∃ v, e = .returned v ∧ w'.ownsRow w.heap.size 137 4 v (segM l.length c) (xsS l (segM l.length c))) ∧ Below w.heap.size w w' := by
  obtain ⟨i0, hi0, hz0, hz1, hz2⟩ := info_parts infoSeg
  have HT := Lib.hid hT; clear hT
  go_enter Tryz.func95, Tryz.ntmps95
  go_wp2_with fail
  go_loopg [5, 6] (l.length - 1) (fun g v iv wr => ∃ i : Nat, i + g = l.length - 1 ∧ iv = .int .i64 (i + 1 : Nat) ∧ wr.ownsRow w.heap.size 137 4 v i (xsS l i) ∧ Below w.heap.size w wr)
  case atStart => exact ⟨0, Nat.zero_add _, rfl, World.ownsRow_nil _ _ _ _, Below.refl _ _⟩
  case round =>
    obtain ⟨i, hi, rfl, hown, hbel⟩ := hrel
    by_cases hlt : i + 1 < l.length
    · obtain ⟨b, o, rfl, hb, c1, c2⟩ := g2_cells (HT.out.to hbel) (i := i) (by omega)
      obtain ⟨b', o', e', -, c3, c4'⟩ := g2_cells (HT.out.to hbel) (i := i + 1) hlt
      cases e'
      have hsg : sg l i = (g2 l i, g2 l (i + 1)) := by unfold sg; rw [Nat.mod_eq_of_lt hlt]
      obtain ⟨p, hp⟩ : ∃ p, g2 l i = p := ⟨_, rfl⟩
      obtain ⟨q, hq⟩ : ∃ q, g2 l (i + 1) = q := ⟨_, rfl⟩
      rw [hp, hq] at hsg
      rw [hp] at c1 c2
      rw [hq] at c3 c4'
      have i1 : (((i + 1 : Nat) : Int) < (l.length : Int)) := by omega
      have i2 : ((i : Int) < (l.length : Int)) := by omega
      have z1 : (0 : Int) ≤ (i : Int) := by omega
      have z2 : (0 : Int) ≤ ((i + 1 : Nat) : Int) := by omega
      have z3 : (0 : Int) ≤ (i : Int) + 1 := by omega
      have i3 : ((i : Int) + 1 < (l.length : Int)) := by omega
      have w1 : IntKind.i64.wrap (((i + 1 : Nat) : Int) - 1) = (i : Int) := by rw [IntWalk.i64_in _ (by omega)]; omega
      have w2 : IntKind.i64.wrap (((i : Int) + 1) - 1) = (i : Int) := by rw [IntWalk.i64_in _ (by omega)]; omega
      have w3 : IntKind.i64.wrap (i : Int) = (i : Int) := IntWalk.i64_in _ (by omega)
      have HQ := Lib.hid (And.intro hown (And.intro hbel hsg))
      clear hsg hp hq
      go_wp2_with fail
      have hnw := c4_cells wr 137 (p, q)
      have hbs := hbel.size
      have hmx : i + 1 ≤ maxLen := by unfold maxLen; omega
      go_region_law (refine step_append_own rfl _ _ 135 rfl w.heap.size 137 i0 (.agg #[.int .i64 0, .int .i64 0, .int .i64 0, .int .i64 0]) 4 32 Tryz.underlying135 hi0 hz0 hz1 hz2 rfl (by decide) _ i (xsS l i) rfl (by first | exact hown.alloc _ | exact (hown.alloc _).drew | exact hown.drew.alloc _) ⟨wr.heap.size, 0, none⟩ 1 1 (c4 (p, q)) rfl rfl hnw (c4_one _) hmx (by omega) (by first | omega | (simp; omega)) ?_; intro v' w' hown' hgrow)
      all_goals (
        have hal : Below w.heap.size w (wr.alloc (.cells #[.int .i64 p.x, .int .i64 p.y, .int .i64 q.x, .int .i64 q.y] 137)) := hbel.alloc hbel.size _
        have hbw : Below w.heap.size w w' := by
          first
          | exact hal.grown hgrow (by simp; omega) (fun k e => (hown.lt k e).1)
          | exact (hal.trans ((bel_dn _ 1).mono hal.size)).grown hgrow (by simp; omega) (fun k e => (hown.lt k e).1)
        have hown2 : w'.ownsRow w.heap.size 137 4 v' (i + 1) (xsS l (i + 1)) := by rw [xsS_succ, HQ.out.2.2]; exact hown'
        have HZ := Lib.hid (And.intro hown2 hbw)
        clear hal hbw hown2 hown' hgrow hnw hbs hmx hown hbel c1 c2 c3 c4'
        go_wp2_with fail
        go_roundg (gk - 1)
        case measure => omega
        case rel => exact ⟨i + 1, by omega, by go_num, HZ.out.1, HZ.out.2⟩)
    · have hie : i + 1 = l.length := by omega
      cases c with
      | false =>
        have hs : segM l.length false = i := by unfold segM; simp; omega
        go_wp2_with fail
        go_ret
        exact ⟨⟨_, rfl, by rw [hs]; exact hown⟩, hbel⟩
      | true =>
        have hs : segM l.length true = i + 1 := by unfold segM; simp; omega
        obtain ⟨b, o, rfl, hb, c1, c2⟩ := g2_cells (HT.out.to hbel) (i := i) (by omega)
        obtain ⟨b', o', e', -, c3, c4'⟩ := g2_cells (HT.out.to hbel) (i := 0) (by omega)
        cases e'
        have hsg : sg l i = (g2 l i, g2 l 0) := by unfold sg; rw [hie, Nat.mod_self]
        obtain ⟨p, hp⟩ : ∃ p, g2 l i = p := ⟨_, rfl⟩
        obtain ⟨q, hq⟩ : ∃ q, g2 l 0 = q := ⟨_, rfl⟩
        rw [hp, hq] at hsg
        rw [hp] at c1 c2
        rw [hq] at c3 c4'
        rw [Nat.zero_mul, Nat.add_zero] at c3 c4'
        have i1 : ¬ (((i : Int) + 1 < (l.length : Int))) := by omega
        have i2 : ((i : Int) < (l.length : Int)) := by omega
        have z1 : (0 : Int) ≤ (i : Int) := by omega
        have i4 : (0 : Int) < (l.length : Int) := by omega
        have i5 : 0 < l.length := by omega
        have d1 : decide (0 < l.length) = true := decide_eq_true i5
        have d2 : decide ((0 : Int) < (l.length : Int)) = true := decide_eq_true i4
        have w3 : IntKind.i64.wrap (i : Int) = (i : Int) := IntWalk.i64_in _ (by omega)
        have w4 : IntKind.i64.wrap ((l.length : Int) - 1) = (i : Int) := by rw [IntWalk.i64_in _ (by omega)]; omega
        have HQ := Lib.hid (And.intro hown (And.intro hbel hsg))
        clear hsg hp hq
        go_wp2_with fail
        have hnw := c4_cells wr 137 (p, q)
        have hbs := hbel.size
        have hmx : i + 1 ≤ maxLen := by unfold maxLen; omega
        go_region_law (refine step_append_own rfl _ _ 135 rfl w.heap.size 137 i0 (.agg #[.int .i64 0, .int .i64 0, .int .i64 0, .int .i64 0]) 4 32 Tryz.underlying135 hi0 hz0 hz1 hz2 rfl (by decide) _ i (xsS l i) rfl (by first | exact hown.alloc _ | exact (hown.alloc _).drew | exact hown.drew.alloc _) ⟨wr.heap.size, 0, none⟩ 1 1 (c4 (p, q)) rfl rfl hnw (c4_one _) hmx (by omega) (by first | omega | (simp; omega)) ?_; intro v' w' hown' hgrow)
        all_goals (
          have hal : Below w.heap.size w (wr.alloc (.cells #[.int .i64 p.x, .int .i64 p.y, .int .i64 q.x, .int .i64 q.y] 137)) := hbel.alloc hbel.size _
          have hbw : Below w.heap.size w w' := by
            first
            | exact hal.grown hgrow (by simp; omega) (fun k e => (hown.lt k e).1)
            | exact (hal.trans ((bel_dn _ 1).mono hal.size)).grown hgrow (by simp; omega) (fun k e => (hown.lt k e).1)
          have hown2 : w'.ownsRow w.heap.size 137 4 v' (i + 1) (xsS l (i + 1)) := by rw [xsS_succ, HQ.out.2.2]; exact hown'
          have HZ := Lib.hid (And.intro hown2 hbw)
          clear hal hbw hown2 hown' hgrow hnw hbs hmx hown hbel c1 c2 c3 c4'
          go_wp2_with fail
          go_ret
          exact ⟨⟨_, rfl, by rw [hs]; exact HZ.out.1⟩, HZ.out.2⟩)

end Go.Proofs.YtgdlfjofefhdoaaGreatDoor
