/- Package profile: failing. -/
import Derived.Test.YtgdlfjofefhdoaaGreatDoorProfG
import Derived.RangeFuncBox
namespace Go.Proofs.YtgdlfjofefhdoaaGreatDoor
open Go.RowKit Go.Sort Go.Lib Go.Shelf Mb

attribute [local go_sem] Oper.semAt_some

/-- memory that keeps what lies below a number, and what lies at another or above it -/
def Kp (n₀ Bs : Nat) (W W' : World) : Prop := Below n₀ W W' ∧ ∀ b, Bs ≤ b → b < W.heap.size → W'.heap[b]? = W.heap[b]?
theorem Kp.of {n₀ Bs : Nat} {W W' : World} (h : Below W.heap.size W W') (hn : n₀ ≤ W.heap.size) : Kp n₀ Bs W W' := ⟨h.mono hn, fun b _ hb => h.block b hb⟩
theorem Kp.trans {n₀ Bs : Nat} {A B C : World} (h : Kp n₀ Bs A B) (k : Kp n₀ Bs B C) : Kp n₀ Bs A C :=
  ⟨h.1.trans k.1, fun b h1 h2 => (k.2 b h1 (Nat.lt_of_lt_of_le h2 h.1.size)).trans (h.2 b h1 h2)⟩
theorem ownsRow_kp {n₀ Bs : Nat} {W W' : World} {e : TypeId} {size : Nat} {v : Value} {n : Nat} {xs : List Value} (h : W.ownsRow Bs e size v n xs) (hk : Kp n₀ Bs W W') : W'.ownsRow Bs e size v n xs := by
  refine ⟨h.1, ?_⟩
  rcases h.2 with hn | ⟨g, cap, cur, hv, hb, hg, rest⟩
  · exact .inl hn
  · exact .inr ⟨g, cap, cur, hv, hb, (hk.2 g hb (Array.getElem?_eq_some_iff.1 hg).1).trans hg, rest⟩

/-- the indices that a test takes, as values -/
def idxL (bt : Nat → Bool) (k : Nat) : List Nat := (List.range k).filter bt
theorem idxL_t {bt : Nat → Bool} {k : Nat} (h : bt k = true) : idxL bt (k + 1) = idxL bt k ++ [k] := by simp [idxL, List.range_succ, List.filter_append, h]
theorem idxL_f {bt : Nat → Bool} {k : Nat} (h : bt k = false) : idxL bt (k + 1) = idxL bt k := by simp [idxL, List.range_succ, List.filter_append, h]
theorem idxL_len (bt : Nat → Bool) (k : Nat) : (idxL bt k).length ≤ k := by
  unfold idxL; have := List.length_filter_le bt (List.range k); simpa using this
def vals (L : List Nat) : List Value := L.map fun (i : Nat) => Value.int .i64 (i : Int)
theorem vals_snoc (L : List Nat) (i : Nat) : vals (L ++ [i]) = vals L ++ [.int .i64 (i : Int)] := by simp [vals]

theorem own0 (w : World) (B : Nat) (bt : Nat → Bool) : w.ownsRow B 3 1 (.slice none 0 0) (idxL bt 0).length (vals (idxL bt 0)) := World.ownsRow_nil _ _ _ _

set_option maxRecDepth 100000 in
set_option maxHeartbeats 8000000 in
theorem pfail_calls (l pts : List P2) (a b : Option Addr) (cap cap' : Nat) (c : Bool) (fn : Nat) (caps : Array Value) (w₀ w : World) (I : Nat → World → Prop) (bt : Nat → Bool)
    (hb0 : Below w₀.heap.size w₀ w) (hg : Good w₀) (hT : Sl2 w₀ a l) (hP : Sl2 w₀ b pts) (he : pErr l c = 0) (hpe : errOf pts = 0) (hpn : pts.length ≤ 64)
    (hI : ∀ k W W', I k W → Below w.heap.size W W' → I k W')
    (hc : ∀ k W, k < pts.length → I k W → Below w₀.heap.size w₀ W → w.heap.size ≤ W.heap.size → Calls Tryz.prog fn (#[.int .i64 k, bV (nrst l c (g2 pts k))] ++ caps) W fun e W' => e = .returned (.bool (bt k)) ∧ I (k + 1) W' ∧ Kp w₀.heap.size w.heap.size W W')
    (h0 : I 0 w) (hfn : ∀ args W, Sem.run Tryz.prog (callFunc fn args) W = .ok (.enter fn args) W) :
    Calls Tryz.prog 98 #[.slice a l.length cap, .bool c, .slice b pts.length cap', .func (.func fn) #[] caps] w fun e w' =>
      ∃ v, e = .returned (.tuple #[v, .int .i64 0]) ∧ w'.ownsRow w.heap.size 3 1 v (idxL bt pts.length).length (vals (idxL bt pts.length)) ∧ I pts.length w' ∧ Below w₀.heap.size w₀ w' := by
  obtain ⟨i0, hi0, hz0, hz1, hz2⟩ := info_parts infoInt1
  have HH := Lib.hid (And.intro hg (And.intro hT (And.intro hP (And.intro he (And.intro hpe (And.intro hI hc))))))
  clear hg hT hP he hpe hI hc
  go_enter Tryz.func98, Tryz.ntmps98
  go_wp2_with fail
  go_loopg [10, 18] pts.length (fun g v iv wr => ∃ k : Nat, k + g = pts.length ∧ iv = .int .i64 k ∧ wr.ownsRow w.heap.size 3 1 v (idxL bt k).length (vals (idxL bt k)) ∧ I k wr ∧ Below w₀.heap.size w₀ wr ∧ w.heap.size ≤ wr.heap.size)
  case atStart => exact ⟨0, Nat.zero_add _, rfl, own0 _ _ _, h0, hb0, Nat.le_refl _⟩
  case round =>
    obtain ⟨k, hk, rfl, hown, hIk, hbel, hsz⟩ := hrel
    clear h0
    by_cases hlt : k < pts.length
    · have i1 : ((k : Int) < pts.length) := by omega
      have z1 : (0 : Int) ≤ (k : Int) := by omega
      obtain ⟨bb, o, rfl, hbl, c1, c2⟩ := g2_cells (HH.out.2.2.1.to hbel) hlt
      obtain ⟨pp, hpp⟩ : ∃ pp, g2 pts k = pp := ⟨_, rfl⟩
      rw [hpp] at c1 c2
      have HQ := Lib.hid (And.intro hown (And.intro hIk (And.intro hbel (And.intro hsz hpp))))
      clear hown hIk hbel hpp
      go_wp2_with fail
      have hpl : flatB pp = true := by rw [← HQ.out.2.2.2.2]; exact g2_flat HH.out.2.2.2.2.1 k
      have hal := alloc_below wr (.cells #[.int .i64 pp.x, .int .i64 pp.y] 23)
      have hal0 : Below w₀.heap.size w₀ (wr.alloc (.cells #[.int .i64 pp.x, .int .i64 pp.y] 23)) := HQ.out.2.2.1.trans (hal.mono HQ.out.2.2.1.size)
      refine (pnear_calls' l a cap c pp _ (HH.out.1.to hal0) (HH.out.2.1.to hal0) (pErr_ok HH.out.2.2.2.1).1 (pErr_ok HH.out.2.2.2.1).2.1 hpl).mono ?_
      rintro e w1 ⟨rfl, hb1⟩
      have hb2 := below_trans hal hb1
      have HC := HH.out.2.2.2.2.2.2 k w1 hlt (HH.out.2.2.2.2.2.1 _ _ _ HQ.out.2.1 (hb2.mono hsz)) (HQ.out.2.2.1.trans (hb2.mono HQ.out.2.2.1.size)) (Nat.le_trans hsz hb2.size)
      rw [HQ.out.2.2.2.2] at HC
      have hown := ownsRow_kp HQ.out.1 (Kp.of hb2 HQ.out.2.2.1.size)
      have HR := Lib.hid (And.intro hown (And.intro (HQ.out.2.2.1.trans (hb2.mono HQ.out.2.2.1.size)) (Nat.le_trans hsz hb2.size)))
      obtain ⟨bs, hbs⟩ : ∃ s, bV (nrst l c pp) = .string s := by
        obtain ⟨b, hb⟩ := nrst_some (p := pp) HH.out.2.2.2.1
        rw [hb]; exact ⟨_, rfl⟩
      obtain ⟨av, hav⟩ : ∃ v, aV (nrst l c pp) = v := ⟨_, rfl⟩
      rw [hbs] at HC
      rw [hbs, hav]
      clear hbs hav hal hal0 hb1 hb2 hown hpl c1 c2 HQ hsz
      cases hbt : bt k with
      | false =>
        rw [hbt] at HC
        go_wp2_with fail
        refine HC.mono ?_
        rintro e w2 ⟨rfl, hI2, hkp⟩
        clear HC
        have hsz2 := hkp.1.size
        go_wp2_with fail
        go_roundg (gk - 1)
        case measure => omega
        case rel =>
          refine ⟨k + 1, by omega, by go_num, ?_, hI2, HR.out.2.1.trans hkp.1, by have := HR.out.2.2; omega⟩
          rw [idxL_f hbt]
          exact ownsRow_kp HR.out.1 hkp
      | true =>
        rw [hbt] at HC
        go_wp2_with fail
        refine HC.mono ?_
        rintro e w2 ⟨rfl, hI2, hkp⟩
        clear HC
        have hsz2 := hkp.1.size
        have hown := ownsRow_kp HR.out.1 hkp
        have hb3 := HR.out.2.1.trans hkp.1
        have hsz3 := Nat.le_trans HR.out.2.2 hsz2
        have hln := idxL_len bt k
        clear HR hkp
        go_wp2_with (at_builtin; refine wpList_append_own _ rfl _ _ 73 rfl w.heap.size 3 i0 (.int .i64 0) 1 8 Tryz.underlying73 hi0 hz0 hz1 hz2 rfl (by decide) _ _ _ rfl (hown.alloc _) ⟨w2.heap.size, 0, none⟩ 1 1 [.int .i64 (k : Int)] rfl rfl ?c1 ?c2 ?c3 ?c4 ?c5 ?_)
        case c1 =>
          intro j u hj
          match j, hj with
          | 0, hj => simp at hj; subst hj; simp [Addr.add]
        case c2 => intro u hu; simp at hu; subst hu; rfl
        case c3 => unfold maxLen; omega
        case c4 => omega
        case c5 => simp; omega
        · intro v' w3 hown' hgrow _
          have hb4 : Below w.heap.size w2 w3 := ((Below.refl w.heap.size w2).alloc hsz3 _).grown hgrow (by simp; omega) (fun k e => (hown.lt k e).1)
          have hb5 := hb3.trans (hb4.mono hb0.size)
          have hI3 := HH.out.2.2.2.2.2.1 _ _ _ hI2 hb4
          have hsz4 := Nat.le_trans hsz3 hb4.size
          have HZ := Lib.hid (And.intro hown' (And.intro hI3 hb5))
          clear hown hown' hgrow hb3 hI2 hb4 hb5 hI3
          go_wp2_with fail
          go_roundg (gk - 1)
          case measure => omega
          case rel =>
            refine ⟨k + 1, by omega, by go_num, ?_, HZ.out.2.1, HZ.out.2.2, hsz4⟩
            rw [idxL_t hbt, vals_snoc, List.length_append]
            exact HZ.out.1
    · have i1 : ¬ ((k : Int) < pts.length) := by omega
      have hke : k = pts.length := by omega
      subst hke
      go_wp2_with fail
      go_ret2
      exact ⟨_, rfl, hown, hIk, hbel⟩

end Go.Proofs.YtgdlfjofefhdoaaGreatDoor
