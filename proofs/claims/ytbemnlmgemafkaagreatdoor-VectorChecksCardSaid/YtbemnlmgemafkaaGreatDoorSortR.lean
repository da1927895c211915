/- The reference's Sorted: the same insertions into a list that grows. -/
import Derived.Test.YtbemnlmgemafkaaGreatDoorOrdC
import Derived.RangeFuncBox
namespace Go.Proofs.YtbemnlmgemafkaaGreatDoor
open Go.RowKit Go.Sort Go.Lib Mb

/-- what the list holds when it has k indices -/
def xsI (n : Nat) (d : Array Nat) (k : Nat) : List Value := (List.range k).map fun j => eN n d[j]!
theorem xsI_len (n : Nat) (d : Array Nat) (k : Nat) : (xsI n d k).length = k := by simp [xsI]
theorem xsI_get {n : Nat} {d : Array Nat} {k j : Nat} (h : j < k) : (xsI n d k)[j]? = some (eN n d[j]!) := by simp [xsI, h]
theorem xsI_succ (n : Nat) (d : Array Nat) (k : Nat) : xsI n d (k + 1) = xsI n d k ++ [eN n d[k]!] := by simp [xsI, List.range_succ]
theorem xsI_swp {n : Nat} {d : Array Nat} {k i j : Nat} (hi : i < k) (hj : j < k) (hij : i ≠ j) (hk : k ≤ d.size) : ((xsI n d k).set i (eN n d[j]!)).set j (eN n d[i]!) = xsI n (swp d i j) k := by
  apply List.ext_getElem?
  intro q
  by_cases hq : q < k
  · rw [xsI_get hq]
    by_cases e1 : q = j
    · subst e1
      rw [List.getElem?_set_self (by rw [List.length_set, xsI_len]; exact hj), swp_right d i q (by omega)]
    · rw [List.getElem?_set_ne (Ne.symm e1)]
      by_cases e2 : q = i
      · subst e2
        rw [List.getElem?_set_self (by rw [xsI_len]; exact hi), swp_left d q j (by omega) hij]
      · rw [List.getElem?_set_ne (Ne.symm e2), xsI_get hq, swp_other d i j q e2 e1]
  · rw [List.getElem?_eq_none (by rw [List.length_set, List.length_set, xsI_len]; omega), List.getElem?_eq_none (by rw [xsI_len]; omega)]

set_option maxHeartbeats 800000 in
theorem before_calls (p q : P2) (w : World) :
    Calls Tryz.prog 125 #[V p, V q] w fun e w' => e = .returned (.bool (bef p q)) ∧ Below w.heap.size w w' := by
  obtain ⟨px, py⟩ := p
  obtain ⟨qx, qy⟩ := q
  by_cases h1 : px < qx
  · go_enter Tryz.func125, Tryz.ntmps125
    go_wp2
    go_ret
    exact ⟨ret_b (by simp [bef, h1]), below2 _ _ _⟩
  · by_cases h2 : px = qx
    · by_cases h3 : py < qy
      · go_enter Tryz.func125, Tryz.ntmps125
        go_wp2
        go_ret
        exact ⟨ret_b (by simp [bef, h3]), below2 _ _ _⟩
      · go_enter Tryz.func125, Tryz.ntmps125
        go_wp2
        go_ret
        exact ⟨ret_b (by simp [bef, h3]), below2 _ _ _⟩
    · go_enter Tryz.func125, Tryz.ntmps125
      go_wp2
      go_ret
      exact ⟨ret_b (by simp [bef, h1, h2]), below2 _ _ _⟩

theorem bef_decide (p q : P2) : bef p q = true ∨ bef p q = false := by cases bef p q <;> simp

set_option maxHeartbeats 3200000 in
theorem sorted_calls (l : List P2) (a : Option Addr) (cap : Nat) (w : World) (hT : Sl2 w a l) (hn : l.length ≤ 8) :
    Calls Tryz.prog 88 #[.slice a l.length cap] w fun e w' => (∃ v, e = .returned v ∧ Ixs w' v l) ∧ Below w.heap.size w w' := by
  have HT := Lib.hid hT; clear hT
  obtain ⟨i0, hi0, hz0, hz1, hz2⟩ := info_parts infoInt
  have hst : Hid (insOuter (ltI l) 0 l.length 0 (Array.range l.length) = srt l) := by
    show _ = _
    by_cases hz : l.length = 0
    · rw [insOuter_stop _ _ _ _ _ (by omega)]
      unfold srt Sort.insertionSort
      rw [insOuter_stop _ _ _ _ _ (by omega)]
    · rw [insOuter_go _ _ _ _ _ (by omega)]
      rw [insInner_stop _ _ _ _ (Or.inl (Nat.le_refl _))]
      rfl
  go_enter Tryz.func88, Tryz.ntmps88
  go_wp2_with fail
  go_loopg [3, 4] l.length (fun g v iv wr => ∃ (i : Nat) (dk : Array Nat), i + g = l.length ∧ iv = .int .i64 i ∧ dk.size = l.length ∧ (∀ j, i ≤ j → j < l.length → dk[j]! = j) ∧ wr.ownsRow w.heap.size 3 1 v i (xsI l.length dk i) ∧ Hid (insOuter (ltI l) 0 l.length i dk = srt l) ∧ Below w.heap.size w wr)
  case atStart => exact ⟨0, Array.range l.length, Nat.zero_add _, rfl, by simp, fun j _ hj => range_get hj, World.ownsRow_nil _ _ _ _, hst, Below.refl _ _⟩
  case round =>
    clear hst
    obtain ⟨i, dk, hi, rfl, hsz, hid, hown, HO, hbel⟩ := hrel
    by_cases hlt : i < l.length
    · have i1 : ((i : Int) < l.length) := by omega
      have z1 : (0 : Int) ≤ (i : Int) := by omega
      have hdi := hid i (Nat.le_refl _) hlt
      go_wp2_with (at_builtin; refine wpList_append_own _ rfl _ _ 70 rfl w.heap.size 3 i0 (.int .i64 0) 1 8 Tryz.underlying70 hi0 hz0 hz1 hz2 rfl (by decide) _ _ _ rfl (hown.alloc _) ⟨wr.heap.size, 0, none⟩ 1 1 [.int .i64 (i : Int)] rfl rfl ?c1 ?c2 ?c3 ?c4 ?c5 ?_)
      case c1 =>
        intro j u hj
        match j, hj with
        | 0, hj => simp at hj; subst hj; simp [Addr.add]
      case c2 => intro u hu; simp at hu; subst hu; rfl
      case c3 => unfold maxLen; omega
      case c4 => omega
      case c5 => have := hbel.size; simp; omega
      · intro v' w1 hown' hgrow _
        have hown2 : w1.ownsRow w.heap.size 3 1 v' (i + 1) (xsI l.length dk (i + 1)) := by
          rw [xsI_succ, hdi]
          have e : eN l.length i = .int .i64 (i : Int) := by show Value.int .i64 ((i % l.length : Nat) : Int) = _; rw [Nat.mod_eq_of_lt hlt]
          rw [e]
          exact hown'
        obtain ⟨g0, cp, rfl⟩ := ownsRow_succ hown2
        have hbw : Below w.heap.size w w1 := (hbel.alloc hbel.size _).grown hgrow (by have := hbel.size; simp; omega) (fun k e => (hown.lt k e).1)
        have H1 := Lib.hid (And.intro hown2 (And.intro hbw (And.intro hsz (And.intro hid HO.out))))
        clear hown' hown2 hgrow hbw hown hbel hsz hid HO hdi
        go_wp2_with fail
        go_loopg [5] i (fun g v wq => ∃ (j : Nat) (dj : Array Nat), v = .int .i64 j ∧ j ≤ i ∧ j ≤ g ∧ dj.size = l.length ∧ (∀ q, i + 1 ≤ q → q < l.length → dj[q]! = q) ∧ wq.ownsRow w.heap.size 3 1 (.slice (some ⟨g0, 0, none⟩) (i + 1) cp) (i + 1) (xsI l.length dj (i + 1)) ∧ Hid (insInner (ltI l) 0 j dj = insInner (ltI l) 0 i dk) ∧ Below w.heap.size w wq)
        case atStart => exact ⟨i, dk, rfl, Nat.le_refl _, Nat.le_refl _, H1.out.2.2.1, fun q h1 h2 => H1.out.2.2.2.1 q (by omega) h2, H1.out.1, rfl, H1.out.2.1⟩
        case round =>
          obtain ⟨j, dj, rfl, hji, hjg, hsj, hidj, hownj, HI, hbj⟩ := hrel
          have hout : (j ≤ 0 ∨ ltI l dj[j]! dj[j - 1]! = false) → insOuter (ltI l) 0 l.length (i + 1) dj = srt l := fun hs => by
            rw [← H1.out.2.2.2.2, insOuter_go _ _ _ _ _ hlt, ← HI.out, insInner_stop _ _ _ _ hs]
          have H2 := Lib.hid (And.intro hji (And.intro hjg (And.intro hsj (And.intro hidj (And.intro hownj (And.intro HI.out (And.intro hbj hout)))))))
          clear hidj HI hbj hout
          by_cases hj : 0 < j
          · obtain ⟨jp, rfl⟩ : ∃ q, j = q + 1 := ⟨j - 1, by omega⟩
            obtain ⟨X, hX⟩ : ∃ X, dj[jp + 1]! % l.length = X := ⟨_, rfl⟩
            obtain ⟨Y, hY⟩ : ∃ Y, dj[jp]! % l.length = Y := ⟨_, rfl⟩
            have hXl : X < l.length := hX ▸ Nat.mod_lt _ (by omega)
            have hYl : Y < l.length := hY ▸ Nat.mod_lt _ (by omega)
            have r1 : wr.cell? ⟨g0, jp + 1, none⟩ = some (.int .i64 (X : Int)) := by rw [hownj.cellAt (jp + 1) (by omega), xsI_get (by omega), ← hX]
            have r2 : wr.cell? ⟨g0, jp, none⟩ = some (.int .i64 (Y : Int)) := by rw [hownj.cellAt jp (by omega), xsI_get (by omega), ← hY]
            obtain ⟨b, o, rfl, hb, c1, c2⟩ := g2_cells (HT.out.to H2.out.2.2.2.2.2.2.1) hXl
            obtain ⟨b', o', e', -, c3, c4⟩ := g2_cells (HT.out.to H2.out.2.2.2.2.2.2.1) hYl
            cases e'
            have q : ∀ d os, Calls Tryz.prog 125 #[V (g2 l X), V (g2 l Y)] (grow (redrawn wr d) os) fun e w'' => e = .returned (.bool (bef (g2 l X) (g2 l Y))) ∧ ∃ p : Regrown, w'' = grow (redrawn wr p.d) p.os := fun d os => Calls.regrown_of (before_calls _ _ _)
            have hlx : ltI l dj[jp + 1]! dj[jp]! = bef (g2 l X) (g2 l Y) := by unfold ltI; rw [hX, hY]
            have HX := Lib.hid (And.intro hX (And.intro hY hlx)); clear hX hY hlx
            have k1 := cell_regrown r1
            have k2 := cell_regrown r2
            have k3 := cell_regrown c1
            have k4 := cell_regrown c2
            have k5 := cell_regrown c3
            have k6 := cell_regrown c4
            clear r1 r2 c1 c2 c3 c4
            have n1 : l ≠ [] := by intro e; rw [e] at hlt; exact Nat.not_lt_zero _ hlt
            have l1 : jp < i := by omega
            have l1' : (jp : Int) < (i : Int) := by omega
            have l2 : (jp : Int) + 1 < (i : Int) + 1 := by omega
            have l3 : (jp : Int) < (i : Int) + 1 := by omega
            have z2 : (0 : Int) ≤ (jp : Int) := by omega
            have z3 : (0 : Int) ≤ (jp : Int) + 1 := by omega
            have z4 : (0 : Int) < (jp : Int) + 1 := by omega
            have x1 : (X : Int) < (l.length : Int) := by omega
            have x2 : (Y : Int) < (l.length : Int) := by omega
            have w1 : IntKind.i64.wrap (jp : Int) = (jp : Int) := IntWalk.i64_in _ (by omega)
            have e1 : ((jp : Int) + 1).toNat = jp + 1 := by omega
            clear hownj
            go_wp2_with fail
            cases hbf : bef (g2 l X) (g2 l Y) with
            | true =>
              rw [hbf] at q
              refine wp_region_quiet_below follows (by kernel_rfl) ?_
              repeat (quiet_step (first | with_reducible exact q _ _))
              refine wpQuiet_nil ?_
              intro _ hw'
              obtain ⟨⟨dq, osq⟩, rfl⟩ := hw'
              obtain ⟨W2, hW2⟩ : ∃ W2, W2 = grow (redrawn wr dq) osq := ⟨_, rfl⟩
              have hb2 : Below wr.heap.size wr W2 := hW2 ▸ below_regrown wr dq osq
              rw [← hW2]
              clear hW2 k1 k2 k3 k4 k5 k6 q
              have ho2 := H2.out.2.2.2.2.1.kept (gb_below (r := none) hb2) (Or.inr (by simp [Value.ownBlock]))
              have r1 : W2.cell? ⟨g0, jp + 1, none⟩ = some (.int .i64 (X : Int)) := by rw [ho2.cellAt (jp + 1) (by omega), xsI_get (by omega), ← HX.out.1]
              have r2 : W2.cell? ⟨g0, jp, none⟩ = some (.int .i64 (Y : Int)) := by rw [ho2.cellAt jp (by omega), xsI_get (by omega), ← HX.out.2.1]
              have f1 := ho2.frozenAt (jp + 1)
              have f2 := ho2.frozenAt jp
              obtain ⟨hs1, hg1⟩ := ho2.stored (jp + 1) (.int .i64 (Y : Int))
              have r3 : (W2.setCell ⟨g0, jp + 1, none⟩ (.int .i64 (Y : Int))).cell? ⟨g0, jp, none⟩ = some (.int .i64 (Y : Int)) := by
                rw [World.cell?_setCell_other]
                · exact r2
                · intro e
                  injection e with e1 e2 e3
                  omega
              obtain ⟨hs2, hg2⟩ := hs1.stored jp (.int .i64 (X : Int))
              have HO2 := Lib.hid (And.intro hs2 (And.intro hg1 (And.intro hg2 hb2)))
              clear ho2 hs1 hs2 hg1 hg2 hb2
              go_wp2_with fail
              go_region
              obtain ⟨W3, hW3⟩ : ∃ W3, W3 = ((W2.setCell ⟨g0, jp + 1, none⟩ (.int .i64 (Y : Int))).setCell ⟨g0, jp, none⟩ (.int .i64 (X : Int))).drew := ⟨_, rfl⟩
              have hfin : W3.ownsRow w.heap.size 3 1 (.slice (some ⟨g0, 0, none⟩) (i + 1) cp) (i + 1) (xsI l.length (swp dj (jp + 1) jp) (i + 1)) := by
                have h1 : ((xsI l.length dj (i + 1)).set (jp + 1) (.int .i64 ((dj[jp]! % l.length : Nat) : Int))).set jp (.int .i64 ((dj[jp + 1]! % l.length : Nat) : Int)) = xsI l.length (swp dj (jp + 1) jp) (i + 1) :=
                  xsI_swp (n := l.length) (d := dj) (k := i + 1) (i := jp + 1) (j := jp) (by omega) (by omega) (by omega) (by rw [H2.out.2.2.1]; omega)
                rw [HX.out.1, HX.out.2.1] at h1
                rw [hW3, ← h1]
                exact HO2.out.1.drew
              have hbF : Below w.heap.size w W3 := by
                have hg := (H2.out.2.2.2.2.1.lt g0 rfl).1
                rw [hW3]
                have h1 := H2.out.2.2.2.2.2.2.1.trans (HO2.out.2.2.2.mono H2.out.2.2.2.2.2.2.1.size)
                exact ((h1.grown HO2.out.2.1 h1.size (fun k e => by cases e; exact hg)).grown HO2.out.2.2.1 (by have := h1.size; simpa using this) (fun k e => by cases e; exact hg)).drew
              have HF := Lib.hid (And.intro hfin hbF)
              clear r1 r2 r3 f1 f2 hfin hbF
              rw [← hW3]
              clear hW3
              go_wp2_with fail
              go_roundg jp
              case measure => have := H2.out.2.1; omega
              case rel =>
                refine ⟨jp, swp dj (jp + 1) jp, by first | rfl | go_num, by omega, Nat.le_refl _, by rw [Go.Sort.size_swp]; exact H2.out.2.2.1, fun q h1 h2 => ?_, HF.out.1, ?_, HF.out.2⟩
                · rw [swp_other _ _ _ _ (by omega) (by omega)]; exact H2.out.2.2.2.1 q h1 h2
                · show _ = _
                  rw [← H2.out.2.2.2.2.2.1, insInner_go (ltI l) 0 (jp + 1) dj (by omega) (by rw [Nat.add_sub_cancel, HX.out.2.2]; exact hbf), Nat.add_sub_cancel]
            | false =>
              rw [hbf] at q
              refine wp_region_quiet_below follows (by kernel_rfl) ?_
              repeat (quiet_step (first | with_reducible exact q _ _))
              refine wpQuiet_nil ?_
              intro _ hw'
              obtain ⟨⟨dq, osq⟩, rfl⟩ := hw'
              obtain ⟨W2, hW2⟩ : ∃ W2, W2 = grow (redrawn wr dq) osq := ⟨_, rfl⟩
              have hb2 : Below wr.heap.size wr W2 := hW2 ▸ below_regrown wr dq osq
              rw [← hW2]
              clear hW2 k1 k2 k3 k4 k5 k6 q
              have HO2 := Lib.hid (And.intro (H2.out.2.2.2.2.1.kept (gb_below (r := none) hb2) (Or.inr (by simp [Value.ownBlock]))) (H2.out.2.2.2.2.2.2.1.trans (hb2.mono H2.out.2.2.2.2.2.2.1.size)))
              clear hb2
              go_wp2_with fail
              go_roundg (l.length - i - 1)
              case measure => omega
              case rel => exact ⟨i + 1, dj, by omega, by go_num, H2.out.2.2.1, H2.out.2.2.2.1, HO2.out.1, H2.out.2.2.2.2.2.2.2 (Or.inr (by rw [Nat.add_sub_cancel, HX.out.2.2]; exact hbf)), HO2.out.2⟩
          · obtain rfl : j = 0 := by omega
            clear hownj
            have HO2 := Lib.hid (And.intro H2.out.2.2.2.2.1.drew H2.out.2.2.2.2.2.2.1.drew)
            go_wp2_with fail
            go_region
            obtain ⟨W2, hW2⟩ : ∃ W2, W2 = wr.drew := ⟨_, rfl⟩
            rw [← hW2] at HO2 ⊢
            clear hW2
            go_wp2_with fail
            go_roundg (l.length - i - 1)
            case measure => omega
            case rel => exact ⟨i + 1, dj, by omega, by go_num, H2.out.2.2.1, H2.out.2.2.2.1, HO2.out.1, H2.out.2.2.2.2.2.2.2 (Or.inl (Nat.le_refl _)), HO2.out.2⟩
    · have hil : i = l.length := by omega
      subst hil
      have hD : dk = srt l := by rw [← HO.out, insOuter_stop _ _ _ _ _ (by omega)]
      rw [hD] at hown
      have HI : Ixs wr u3 l := by
        rcases hown.2 with ⟨rfl, h0⟩ | ⟨g, cp, cur, rfl, _⟩
        · exact ⟨none, 0, by rw [h0], fun j hj => by omega⟩
        · exact ⟨some ⟨g, 0, none⟩, cp, rfl, fun j hj => ⟨g, rfl, by rw [hown.cellAt j (by omega), xsI_get hj]⟩⟩
      have HI := Lib.hid (And.intro HI hbel)
      clear hown hbel HO hid hsz hD
      go_wp2_with fail
      go_ret
      exact ⟨⟨_, rfl, HI.out.1⟩, HI.out.2⟩

end Go.Proofs.YtbemnlmgemafkaaGreatDoor
