/- Package whole: estimate: how often a magnitude may be taken away. Package whole: divided. -/
import Derived.Test.YtgdlfjofefhdoaaGreatDoorTxtA
import Derived.Laws.CopyRow
import Derived.Laws.CopyOwn
namespace Go.Proofs.YtgdlfjofefhdoaaGreatDoor
open Go.RowKit Go.Sort Go.Lib Mb

set_option maxRecDepth 100000 in
set_option maxHeartbeats 800000 in
theorem top_calls (b n i : Nat) (less : Bool) (f : Nat → Int) (w : World) (hW : Wide w b less n f) (hm : Mag f n) :
    Calls Tryz.prog 233 #[.pointer (some ⟨b, 0, none⟩), .int .i64 i] w fun e w' => e = .returned (.int .i64 (f i)) ∧ w = w' := by
  have c1 := hW.c1
  have hle := hm.le
  have z0 : ¬ ((i : Int) < 0) := by omega
  by_cases hi : i < n
  · have cw := hW.cw i (by omega)
    have i1 : ¬ ((n : Int) ≤ (i : Int)) := by omega
    have i2 : (i : Int) < 232 := by omega
    have i3 : (0 : Int) ≤ (i : Int) := by omega
    clear hW hm
    go_enter Tryz.func233, Tryz.ntmps233
    go_wp2_with fail
    go_ret
    exact ⟨rfl, rfl⟩
  · have hz := hm.z i (by omega)
    rw [hz]
    have i1 : ((n : Int) ≤ (i : Int)) := by omega
    clear hW hm hz
    go_enter Tryz.func233, Tryz.ntmps233
    go_wp2_with fail
    go_ret
    exact ⟨rfl, rfl⟩

set_option maxRecDepth 100000 in
set_option maxHeartbeats 1600000 in
theorem estimate_calls (bx by' rn yn : Nat) (lx ly : Bool) (r y : Nat → Int) (w : World) (hX : Wide w bx lx rn r) (hY : Wide w by' ly (yn + 1) y) (hr : Mag r rn) (hy : Mag y (yn + 1)) (hle : val y (yn + 1) ≤ val r rn) (hlt : val r rn < B * val y (yn + 1)) :
    Calls Tryz.prog 213 #[.pointer (some ⟨bx, 0, none⟩), .pointer (some ⟨by', 0, none⟩)] w fun e w' => (∃ k : Int, e = .returned (.int .i64 k) ∧ 1 ≤ k ∧ k ≤ B - 1 ∧ k * val y (yn + 1) ≤ val r rn) ∧ Below w.heap.size w w' := by
  obtain ⟨b1, b2, a1, a2, e1, e2, e3⟩ := est_ok hr hy hle hlt (r (yn + 1) * B + r yn) (y yn + if 1 < yn + 1 then 1 else 0) rfl rfl
  have q1 : ∀ d, Calls Tryz.prog 233 #[.pointer (some ⟨bx, 0, none⟩), .int .i64 ((yn : Int) + 1)] (w.drewN d) fun e w'' => e = .returned (.int .i64 (r (yn + 1))) ∧ ∃ m, w'' = w.drewN m := fun d => (top_calls bx rn (yn + 1) lx r _ (hX.drewN d) hr).mono fun e w' ⟨h, hw⟩ => ⟨h, d, hw.symm⟩
  have q2 : ∀ d, Calls Tryz.prog 233 #[.pointer (some ⟨bx, 0, none⟩), .int .i64 (yn : Int)] (w.drewN d) fun e w'' => e = .returned (.int .i64 (r yn)) ∧ ∃ m, w'' = w.drewN m := fun d => (top_calls bx rn yn lx r _ (hX.drewN d) hr).mono fun e w' ⟨h, hw⟩ => ⟨h, d, hw.symm⟩
  have q3 : ∀ d, Calls Tryz.prog 233 #[.pointer (some ⟨by', 0, none⟩), .int .i64 (yn : Int)] (w.drewN d) fun e w'' => e = .returned (.int .i64 (y yn)) ∧ ∃ m, w'' = w.drewN m := fun d => (top_calls by' (yn + 1) yn ly y _ (hY.drewN d) hy).mono fun e w' ⟨h, hw⟩ => ⟨h, d, hw.symm⟩
  have c1 := hY.c1
  have hyn := hy.le
  have hr1 := hr.wd (yn + 1)
  have hr0 := hr.wd yn
  have hy0 := hy.wd yn
  obtain ⟨u, hu⟩ : ∃ u, r (yn + 1) = u := ⟨_, rfl⟩
  obtain ⟨v, hv⟩ : ∃ v, r yn = v := ⟨_, rfl⟩
  obtain ⟨t, ht⟩ : ∃ t, y yn = t := ⟨_, rfl⟩
  rw [hu] at hr1 q1 e1 e2 e3 a1 a2
  rw [hv] at hr0 q2 e1 e2 e3 a1 a2
  rw [ht] at hy0 q3 b1 b2 e1 e2 e3
  obtain ⟨Y, hY'⟩ : ∃ Y, val y (yn + 1) = Y := ⟨_, rfl⟩
  obtain ⟨R, hR'⟩ : ∃ R, val r rn = R := ⟨_, rfl⟩
  rw [hY', hR'] at e3 ⊢
  clear hu hv ht hY' hR' hX hY hr hy hle hlt
  have w1 : IntKind.i64.wrap (u * 1000000000) = u * 1000000000 := IntWalk.i64_in _ (by unfold B at *; omega)
  have w2 : IntKind.i64.wrap (u * 1000000000 + v) = u * 1000000000 + v := IntWalk.i64_in _ (by unfold B at *; omega)
  have w3 : IntKind.i64.wrap (yn : Int) = (yn : Int) := IntWalk.i64_in _ (by omega)
  have w4 : IntKind.i64.wrap (t + 1) = t + 1 := IntWalk.i64_in _ (by unfold B at *; omega)
  go_enter Tryz.func213, Tryz.ntmps213
  go_wp2_with fail
  go_quiet (first | with_reducible exact q1 _ | with_reducible exact q2 _ | with_reducible exact q3 _)
  by_cases hy1 : 1 < yn + 1
  · have w6 : (1 : Int) < (yn : Int) + 1 := by omega
    have w7 : 0 < yn := by omega
    obtain ⟨A, hA⟩ : ∃ A, u * 1000000000 + v = A := ⟨_, rfl⟩
    rw [hA]
    have hAB : u * B + v = A := by unfold B; exact hA
    rw [hAB, if_pos hy1] at e1 e2 e3
    rw [hAB] at a1 a2
    have hd1 : 1 ≤ t + 1 := by omega
    have hq : A.tdiv (t + 1) = A / (t + 1) := Int.tdiv_eq_ediv_of_nonneg a1
    have hq0 : 0 ≤ A / (t + 1) := Int.ediv_nonneg a1 (by omega)
    have hq1 : A / (t + 1) ≤ A := Int.ediv_le_self _ a1
    have hnz : t + 1 ≠ 0 := by omega
    have hnz2 : (t + 1 == 0) = false := by rw [beq_eq_false_iff_ne]; exact hnz
    obtain ⟨q, hqq⟩ : ∃ q, A / (t + 1) = q := ⟨_, rfl⟩
    rw [hqq] at hq hq0 hq1
    have w5 : IntKind.i64.wrap q = q := IntWalk.i64_in _ (by unfold B at *; omega)
    have hest : est A (t + 1) = if 0 < q then min q (B - 1) else 1 := by unfold est; rw [hqq]
    rw [hest] at e1 e2 e3
    clear hest hqq hA hAB a1 a2
    by_cases hp : 0 < q
    · rw [if_pos hp] at e1 e2 e3
      obtain ⟨k, hk⟩ : ∃ k, min q 999999999 = k := ⟨_, rfl⟩
      have hk2 : min q (B - 1) = k := hk
      rw [hk2] at e1 e2 e3
      have HE := Lib.hid (And.intro e1 (And.intro e2 e3)); clear e1 e2 e3 hk2
      go_wp2_with fail
      go_ret
      exact ⟨⟨_, by first | rfl | (rw [hk]), HE.out.1, HE.out.2.1, HE.out.2.2⟩, bel_dn w nq⟩
    · rw [if_neg hp] at e1 e2 e3
      have HE := Lib.hid (And.intro e1 (And.intro e2 e3)); clear e1 e2 e3
      go_wp2_with fail
      go_ret
      exact ⟨⟨1, rfl, HE.out.1, HE.out.2.1, HE.out.2.2⟩, bel_dn w nq⟩
  · have w6 : ¬ (1 : Int) < (yn : Int) + 1 := by omega
    have w7 : yn = 0 := by omega
    obtain ⟨A, hA⟩ : ∃ A, u * 1000000000 + v = A := ⟨_, rfl⟩
    rw [hA]
    have hAB : u * B + v = A := by unfold B; exact hA
    rw [hAB, if_neg hy1, Int.add_zero] at e1 e2 e3
    rw [hAB] at a1 a2
    have hd1 : 1 ≤ t := by omega
    have hq : A.tdiv (t) = A / (t) := Int.tdiv_eq_ediv_of_nonneg a1
    have hq0 : 0 ≤ A / (t) := Int.ediv_nonneg a1 (by omega)
    have hq1 : A / (t) ≤ A := Int.ediv_le_self _ a1
    have hnz : t ≠ 0 := by omega
    have hnz2 : (t == 0) = false := by rw [beq_eq_false_iff_ne]; exact hnz
    obtain ⟨q, hqq⟩ : ∃ q, A / (t) = q := ⟨_, rfl⟩
    rw [hqq] at hq hq0 hq1
    have w5 : IntKind.i64.wrap q = q := IntWalk.i64_in _ (by unfold B at *; omega)
    have hest : est A (t) = if 0 < q then min q (B - 1) else 1 := by unfold est; rw [hqq]
    rw [hest] at e1 e2 e3
    clear hest hqq hA hAB a1 a2
    by_cases hp : 0 < q
    · rw [if_pos hp] at e1 e2 e3
      obtain ⟨k, hk⟩ : ∃ k, min q 999999999 = k := ⟨_, rfl⟩
      have hk2 : min q (B - 1) = k := hk
      rw [hk2] at e1 e2 e3
      have HE := Lib.hid (And.intro e1 (And.intro e2 e3)); clear e1 e2 e3 hk2
      go_wp2_with fail
      go_ret
      exact ⟨⟨_, by first | rfl | (rw [hk]), HE.out.1, HE.out.2.1, HE.out.2.2⟩, bel_dn w nq⟩
    · rw [if_neg hp] at e1 e2 e3
      have HE := Lib.hid (And.intro e1 (And.intro e2 e3)); clear e1 e2 e3
      go_wp2_with fail
      go_ret
      exact ⟨⟨1, rfl, HE.out.1, HE.out.2.1, HE.out.2.2⟩, bel_dn w nq⟩

end Go.Proofs.YtgdlfjofefhdoaaGreatDoor

namespace Go.Proofs.YtgdlfjofefhdoaaGreatDoor
open Go.RowKit Go.Sort Go.Lib Mb

theorem addO (b o k : Nat) : (⟨b, o, none⟩ : Addr).add k = ⟨b, o + k, none⟩ := by
  unfold Addr.add
  split
  · rename_i h; subst h; rfl
  · rfl

set_option maxRecDepth 100000 in
set_option maxHeartbeats 800000 in
/-- the words are moved up by one place: what copy does -/
theorem copy_up {w : World} {b n : Nat} {less : Bool} {f : Nat → Int} (hW : Wide w b less n f) (hm : Mag f n) (hn : n ≤ 231) (ty : TypeId) :
    ∃ w', (Builtin.copy_ #[73, 73] ty #[.slice (some ⟨b, 3, none⟩) 231 231, .slice (some ⟨b, 2, none⟩) n 232]).run Tryz.prog w = .ok (goInt n) w' ∧ Wide w' b less n (push f (f 0)) ∧ w.grownBy w' (some b) := by
  have hl : ((List.range n).map fun j => Value.int .i64 (f j)).length = n := by simp
  have h := run_copy_row (P := Tryz.prog) w 73 73 ty 3 b 3 231 231 ⟨b, 2, none⟩ n 232 (wc less n f) 193 ((List.range n).map fun j => .int .i64 (f j)) Tryz.underlying73 (by kernel_rfl) hW
    (by rw [hl]; exact (Nat.min_eq_left hn).symm)
    (fun j v hj => by
      have hjn : j < n := by
        rcases Nat.lt_or_ge j n with h | h
        · exact h
        · rw [List.getElem?_eq_none (by rw [hl]; exact h)] at hj; cases hj
      rw [addO, hW.cw j (by omega)]
      simp [hjn] at hj
      rw [hj])
    (by rw [hl, wc_size]; omega) (fun v hv => by simp at hv; obtain ⟨j, _, rfl⟩ := hv; rfl)
  rw [hl] at h
  refine ⟨_, h, ?_, ?_⟩
  · unfold Wide
    rw [setRow_heap w b _ _ _ _ hW]
    have hs : (wc less n f).toList.length = 234 := by rw [Array.length_toList, wc_size]
    have ht : ((wc less n f).toList.take 3).length = 3 := by rw [List.length_take, hs]; rfl
    have g : ∀ i, (wc less n f).toList[i]? = (wc less n f)[i]? := fun i => Array.getElem?_toList ..
    refine congrArg (fun c => some (Obj.cells c 193 (0, 0))) (ext_wc ?_ ?_ ?_ ?_)
    · rw [List.size_toArray, List.length_append, List.length_append, hl, ht, List.length_drop, hs]; omega
    · rw [List.getElem?_toArray, List.append_assoc, List.getElem?_append_left (by rw [ht]; omega), List.getElem?_take_of_lt (by omega), g, wc_0]
    · rw [List.getElem?_toArray, List.append_assoc, List.getElem?_append_left (by rw [ht]; omega), List.getElem?_take_of_lt (by omega), g, wc_1]
    · intro j hj
      rw [List.getElem?_toArray, List.append_assoc]
      cases j with
      | zero =>
        rw [List.getElem?_append_left (by rw [ht]; omega), List.getElem?_take_of_lt (by omega), g, wc_w _ _ _ 0 (by omega)]
        rfl
      | succ j =>
        rw [List.getElem?_append_right (by rw [ht]; omega), ht, show 2 + (j + 1) - 3 = j by omega]
        by_cases hjn : j < n
        · rw [List.getElem?_append_left (by rw [hl]; exact hjn)]
          simp [hjn, push]
        · rw [List.getElem?_append_right (by rw [hl]; omega), hl, List.getElem?_drop, show 3 + n + (j - n) = 2 + (j + 1) by omega, g, wc_w _ _ _ _ hj]
          show some (Value.int .i64 (f (j + 1))) = some (.int .i64 (f j))
          rw [hm.z j (by omega), hm.z (j + 1) (by omega)]
  · exact ⟨rfl, rfl, rfl, by simp, fun k _ hk => setRow_other _ _ _ _ (fun e => hk (by rw [e]))⟩

theorem val_sh_cons (f : Nat → Int) (k n : Nat) (h : k < n) : val (sh f k) (n - k) = f k + B * val (sh f (k + 1)) (n - (k + 1)) := by
  have e : sh f k = push (sh f (k + 1)) (f k) := by
    funext i
    cases i with
    | zero => rfl
    | succ i => show f (k + (i + 1)) = f (k + 1 + i); congr 1; omega
  rw [e, show n - k = (n - (k + 1)) + 1 by omega, val_push]

theorem sh_upd (f : Nat → Int) (k : Nat) (v : Int) : sh (upd f k v) (k + 1) = sh f (k + 1) := by
  funext i; exact upd_other (by omega)

theorem below_at {b : Nat} {w a c : World} (hb : b = w.heap.size) (h : Below b w a) (k : Below a.heap.size a c) : Below b w c := by subst hb; exact below_trans h k

theorem push_mag {f : Nat → Int} {n : Nat} {v : Int} (h : Mag f n) (hn : n ≤ 231) (hv : 0 ≤ v ∧ v < B) : Pre (push f v) (n + 1) :=
  ⟨by omega, fun i => by
    cases i with
    | zero => exact hv
    | succ i => exact h.wd i, fun i hi => by
    cases i with
    | zero => omega
    | succ i => exact h.z i (by omega)⟩

set_option maxRecDepth 100000 in
set_option maxHeartbeats 3200000 in
theorem divided_calls (bx by' xn yn : Nat) (lx ly : Bool) (x y : Nat → Int) (w : World) (hX : Wide w bx lx xn x) (hY : Wide w by' ly (yn + 1) y) (hx : Mag x xn) (hy : Mag y (yn + 1)) (hyl : yn + 1 ≤ 230) :
    Calls Tryz.prog 187 #[.pointer (some ⟨bx, 0, none⟩), .pointer (some ⟨by', 0, none⟩)] w fun e w' => ∃ b1 b2 m1 m2 f1 f2, e = .returned (.tuple #[.pointer (some ⟨b1, 0, none⟩), .pointer (some ⟨b2, 0, none⟩)]) ∧ (Mag f1 m1 ∧ val f1 m1 = val x xn / val y (yn + 1) ∧ Wide w' b1 false m1 f1) ∧ (Mag f2 m2 ∧ val f2 m2 = val x xn % val y (yn + 1) ∧ Wide w' b2 false m2 f2) ∧ (w.heap.size ≤ b1 ∧ w.heap.size ≤ b2 ∧ b1 ≠ b2) ∧ Below w.heap.size w w' := by
  have c1 := hX.c1
  have hle := hx.le
  have HX := Lib.hid (And.intro hX (And.intro hY (And.intro hx hy))); clear hX hY hx hy
  have w0 : IntKind.i64.wrap ((xn : Int) - 1) = (xn : Int) - 1 := IntWalk.i64_in _ (by omega)
  obtain ⟨w1, hw1⟩ : ∃ w1, w1 = (w.alloc (.cells (wc false 0 (fun _ => 0)) 193)).alloc (.cells (wc false 0 (fun _ => 0)) 193) := ⟨_, rfl⟩
  have hb1 : Below w.heap.size w w1 := by rw [hw1]; exact below_trans (alloc_below _ _) (alloc_below _ _)
  have hq1 : Wide w1 w.heap.size false 0 (fun _ => 0) := by rw [hw1]; exact (wide_new _ _ _ _).to (alloc_below _ _)
  have hr1 : Wide w1 (w.heap.size + 1) false 0 (fun _ => 0) := by
    rw [hw1]
    have := wide_new (w.alloc (.cells (wc false 0 (fun _ => 0)) 193)) false 0 (fun _ => 0)
    rwa [World.size_alloc] at this
  have c2 := (HX.out.1.to hb1).c1
  go_enter Tryz.func187, Tryz.ntmps187
  simp only [← zero_wc] at hw1
  have c3 : ((w.alloc (.cells Tryz.zeroCells193 193)).alloc (.cells Tryz.zeroCells193 193)).cell? ⟨bx, 1, none⟩ = some (.int .i64 xn) := by rw [← hw1]; exact c2
  go_wp2_with fail
  rw [← hw1]
  clear hw1 c3 c1
  obtain ⟨br, hbr⟩ : ∃ b, b = w.heap.size + 1 := ⟨_, rfl⟩
  rw [← hbr] at hr1 ⊢
  obtain ⟨bq, hbq⟩ : ∃ b, b = w.heap.size := ⟨_, rfl⟩
  rw [← hbq] at hq1 hb1 ⊢
  have HB := Lib.hid (And.intro hbq hbr); clear hbq hbr
  have HQ := Lib.hid (And.intro hq1 (And.intro hr1 hb1)); clear hq1 hr1 hb1 c2
  go_loopg [8] xn (fun g v wr => ∃ (rn qn : Nat) (r f : Nat → Int), v = .int .i64 ((g : Int) - 1) ∧ g ≤ xn ∧ Mag r rn ∧ Pre f qn ∧ qn ≤ xn ∧ val (sh x g) (xn - g) = val (sh f g) (xn - g) * val y (yn + 1) + val r rn ∧ val r rn < val y (yn + 1) ∧ (∀ i, i < g → f i = 0) ∧ Wide wr bq false qn f ∧ Wide wr br false rn r ∧ Below bq w wr)
  case atStart =>
    have hlow := HX.out.2.2.2.low
    have hpos := pow_pos' yn
    exact ⟨0, 0, fun _ => 0, fun _ => 0, rfl, Nat.le_refl _, Mag.zero, Mag.zero.pre, Nat.zero_le _, by simp [val], by show (0 : Int) < _; omega, fun _ _ => rfl, HQ.out.1, HQ.out.2.1, HQ.out.2.2⟩
  case round =>
    obtain ⟨rn, qn, r, f, rfl, hg, hr, hf, hqn, heq, hlt, hz, hW1, hW2, hbel⟩ := hrel
    cases gk with
    | zero =>
      have HF := Lib.hid (And.intro hr (And.intro heq (And.intro hlt (And.intro hW2 (And.intro hbel hf))))); clear hr heq hlt hW2 hbel
      have HT := trimmed_calls bq false qn f wr hW1 hf
      clear hW1 hf
      go_wp2_with fail
      refine HT.mono ?_
      rintro e w2 ⟨rfl, h2, hgb⟩
      have H2 := Lib.hid (And.intro h2 hgb); clear h2 hgb HT
      go_wp2_with fail
      go_ret2
      obtain ⟨⟨m, hm, hv, hq⟩, hgb⟩ := H2.out
      obtain ⟨hr, heq, hlt, hW2, hbel, hf⟩ := HF.out
      have ex : sh x 0 = x := by funext i; show x (0 + i) = x i; rw [Nat.zero_add]
      have ef : sh f 0 = f := by funext i; show f (0 + i) = f i; rw [Nat.zero_add]
      rw [ex, ef, Nat.sub_zero, val_ext hqn (fun i a _ => hf.z i a), ← hv] at heq
      have hu := quo_unique (Int.lt_of_le_of_lt hr.bd.1 hlt) heq hr.bd.1 hlt
      have h1 := HB.out
      have hne : (some br : Option Nat) ≠ some bq := by rw [h1.1, h1.2]; simp
      exact ⟨bq, br, m, rn, f, r, rfl, ⟨hm, hu.1, hq⟩, ⟨hr, hu.2, hW2.grown hgb hne⟩, ⟨by omega, by omega, by omega⟩, by rw [← h1.1]; exact below_gb hbel hgb (by have h3 := hbel.size; omega) (Nat.le_refl _)⟩
    | succ g =>
      have hY0 := HX.out.2.2.2.low
      have hrn : rn ≤ yn + 1 := by
        rcases Nat.lt_or_ge (yn + 1) rn with h | h
        · have := HX.out.2.2.2.lt_of_n hr h; omega
        · exact h
      have hbelw : Below w.heap.size w wr := by rw [← HB.out.1]; exact hbel
      obtain ⟨w2, hcopy, hW3, hg3⟩ := copy_up hW2.drew hr (by omega) 3
      have cr1 := hW2.c1
      have cx := (HX.out.1.to hbelw).cw g (by omega)
      have i1 : (g : Int) < 232 := by omega
      have i2 : (rn : Int) ≤ 232 := by omega
      have i3 : rn ≤ 232 := by omega
      have HS := Lib.hid (And.intro hr (And.intro hf (And.intro heq (And.intro hlt (And.intro hz (And.intro hW1 (And.intro hbel (And.intro hbelw (And.intro hW3 hg3)))))))))
      clear hr hf heq hlt hz hbel hbelw hW3 hg3 hW1 hW2
      go_wp2_with fail
      go_region
      clear hcopy cr1 cx
      have hb2 : Below bq w w2 := by
        obtain ⟨hr, hf, heq, hlt, hz, hW1, hbel, hbelw, hW3, hg3⟩ := HS.out
        have h3 := hbel.size
        have h1 := HB.out
        exact below_gb hbel (gb_trans (gb_dn _ 1 _) hg3) (by omega) (by omega)
      have hb2w : Below w.heap.size w w2 := by rw [← HB.out.1]; exact hb2
      have hWx := HX.out.1.to hb2w
      have cx := hWx.cw g (by omega)
      have cr0 : w2.cell? ⟨br, 2, none⟩ = some (.int .i64 (push r (r 0) 0)) := HS.out.2.2.2.2.2.2.2.2.1.cw 0 (by omega)
      have fr0 := HS.out.2.2.2.2.2.2.2.2.1.free 2
      have i4 : (0 : Int) ≤ (g : Int) := by omega
      obtain ⟨xg, hxg⟩ : ∃ v, x g = v := ⟨_, rfl⟩
      rw [hxg] at cx
      have HX2 := Lib.hid (And.intro hb2 hxg); clear hb2 hb2w hWx hxg
      go_wp2_with fail
      go_region
      clear cx cr0 fr0
      obtain ⟨w3, hw3⟩ : ∃ w3, w3 = (w2.setCell ⟨br, 2, none⟩ (.int .i64 xg)).drew := ⟨_, rfl⟩
      rw [← hw3]
      have hW4 : Wide w3 br false rn (push r xg) := by
        have h := HS.out.2.2.2.2.2.2.2.2.1.setW 0 (by omega) xg
        rw [hw3]
        have e : upd (push r (r 0)) 0 xg = push r xg := by
          funext i
          cases i with
          | zero => rfl
          | succ i => rfl
        rw [e] at h
        exact h.drew
      have hb3 : Below bq w w3 := by
        rw [hw3]
        have h3 := HX2.out.1.size
        have h1 := HB.out
        exact below_gb HX2.out.1 (gb_trans (gb_set _ _ _ _) (gb_dn _ 1 _)) (by omega) (by omega)
      have hWq3 : Wide w3 bq false qn f := by
        obtain ⟨hr, hf, heq, hlt, hz, hW1, hbel, hbelw, hW3, hg3⟩ := HS.out
        have h1 := HB.out
        have hne : (some bq : Option Nat) ≠ some br := by rw [h1.1, h1.2]; simp
        rw [hw3]
        exact ((hW1.drew.grown hg3 hne).grown (gb_set _ _ _ _) hne).drew
      have cr1 := hW4.c1
      have fr1 := hW4.free 1
      have a1 : IntKind.i64.wrap ((rn : Int) + 1) = (rn : Int) + 1 := IntWalk.i64_in _ (by omega)
      have H3 := Lib.hid (And.intro hW4 (And.intro hb3 hWq3)); clear hW4 hb3 hWq3 hw3
      go_wp2_with fail
      clear cr1 fr1
      obtain ⟨w4, hw4⟩ : ∃ w4, w4 = w3.setCell ⟨br, 1, none⟩ (.int .i64 ((rn : Int) + 1)) := ⟨_, rfl⟩
      rw [← hw4]
      have hT := trimmed_calls br false (rn + 1) (push r xg) w4 (by rw [hw4]; exact H3.out.1.setN (rn + 1)) (push_mag HS.out.1 (by omega) (by rw [← HX2.out.2]; exact HX.out.2.2.1.wd g))
      have hg4 : w3.grownBy w4 (some br) := by rw [hw4]; exact gb_set _ _ _ _
      rw [val_push] at hT
      have H4 := Lib.hid hg4; clear hg4 hw4
      refine hT.mono ?_
      rintro e w5 ⟨rfl, h5, hg5⟩
      have H5 := Lib.hid (And.intro h5 (gb_trans H4.out hg5)); clear hT h5 hg5
      go_wp2_with fail
      go_loopg [9] (xg + B * val r rn).toNat (fun t v wr' => ∃ (d : Int) (m : Nat) (s : Nat → Int), v = .int .i64 d ∧ 0 ≤ d ∧ Mag s m ∧ val s m + d * val y (yn + 1) = xg + B * val r rn ∧ (val s m).toNat = t ∧ Wide wr' bq false qn f ∧ Wide wr' br false m s ∧ Below bq w wr')
      case atStart =>
        obtain ⟨⟨m, hm, hv, hW⟩, hg5⟩ := H5.out
        have h1 := HB.out
        have hne : (some bq : Option Nat) ≠ some br := by rw [h1.1, h1.2]; simp
        have h3 := H3.out.2.1.size
        exact ⟨0, m, push r xg, rfl, Int.le_refl _, hm, by rw [hv]; simp, by rw [hv], H3.out.2.2.grown hg5 hne, hW, below_gb H3.out.2.1 hg5 (by omega) (by omega)⟩
      case round =>
        obtain ⟨d, m, s, rfl, hd, hs, hsum, ht, hWq, hWr, hbel⟩ := hrel
        have hxw : 0 ≤ xg ∧ xg < B := by rw [← HX2.out.2]; exact HX.out.2.2.1.wd g
        have hP : xg + B * val r rn < B * val y (yn + 1) := by
          have h1 : B * (val r rn + 1) ≤ B * val y (yn + 1) := Int.mul_le_mul_of_nonneg_left (by have := HS.out.2.2.2.1; omega) (by decide)
          rw [Int.mul_add] at h1
          omega
        have hY0 := HX.out.2.2.2.low
        have hp0 := pow_pos' yn
        have hdB : d ≤ B - 1 := by
          by_cases h : d ≤ B - 1
          · exact h
          · exfalso
            have h1 : B * val y (yn + 1) ≤ d * val y (yn + 1) := Int.mul_le_mul_of_nonneg_right (by omega) (by omega)
            have := hs.bd.1
            omega
        have hbelw : Below w.heap.size w wr := by rw [← HB.out.1]; exact hbel
        have hWy := HX.out.2.1.to hbelw
        have HC := beyond_calls br by' false ly m (yn + 1) s y wr hWr hWy hs HX.out.2.2.2
        have HI := Lib.hid (And.intro hs (And.intro hsum (And.intro ht (And.intro hWq (And.intro hWr (And.intro hbel (And.intro hP (And.intro hY0 hp0))))))))
        clear hs hsum ht hWq hWr hbel hP hY0 hp0 hbelw hWy hxw
        go_wp2_with fail
        refine HC.mono ?_
        rintro e w6 ⟨⟨c, rfl, hc⟩, hb6⟩
        clear HC
        have hW6 : Wide w6 br false m s := HI.out.2.2.2.2.1.to hb6
        have hb6q : Below bq w w6 := below_at HB.out.1 HI.out.2.2.2.2.2.1 hb6
        have hb6w : Below w.heap.size w w6 := by rw [← HB.out.1]; exact hb6q
        have hWy6 := HX.out.2.1.to hb6w
        by_cases hc0 : 0 ≤ c
        · have hle := hc.1 hc0
          have HE := estimate_calls br by' m yn false ly s y w6 hW6 hWy6 HI.out.1 HX.out.2.2.2 hle (by
            obtain ⟨hs, hsum, ht, hWq, hWr, hbel, hP, hY0, hp0⟩ := HI.out
            have : 0 ≤ d * val y (yn + 1) := Int.mul_nonneg hd (by omega)
            omega)
          have H6 := Lib.hid (And.intro hle (And.intro hW6 (And.intro hb6q (And.intro (HI.out.2.2.2.1.to hb6) hb6)))); clear hc hle hW6 hWy6 hb6 hb6q hb6w
          go_wp2_with fail
          refine HE.mono ?_
          rintro e w7 ⟨⟨k, rfl, hk1, hk2, hk3⟩, hb7⟩
          clear HE
          have a2 : IntKind.i64.wrap (-k) = -k := IntWalk.i64_in _ (by unfold B at hk2; omega)
          have hdk : d + k ≤ B - 1 := by
            obtain ⟨hs, hsum, ht, hWq, hWr, hbel, hP, hY0, hp0⟩ := HI.out
            by_cases h : d + k ≤ B - 1
            · exact h
            · exfalso
              have h1 : B * val y (yn + 1) ≤ (d + k) * val y (yn + 1) := Int.mul_le_mul_of_nonneg_right (by omega) (by omega)
              rw [Int.add_mul] at h1
              omega
          have a3 : IntKind.i64.wrap (d + k) = d + k := IntWalk.i64_in _ (by unfold B at *; omega)
          have hb7q : Below bq w w7 := below_at HB.out.1 H6.out.2.2.1 hb7
          have hb7w : Below w.heap.size w w7 := by rw [← HB.out.1]; exact hb7q
          have hKY : 0 ≤ k * val y (yn + 1) := Int.mul_nonneg (by omega) (by have := HI.out.2.2.2.2.2.2.2; omega)
          have hY1 : val y (yn + 1) ≤ k * val y (yn + 1) := by
            have := Int.mul_le_mul_of_nonneg_right hk1 (show 0 ≤ val y (yn + 1) by have := HI.out.2.2.2.2.2.2.2; omega)
            omega
          have es : sh s 0 = s := by funext i; show s (0 + i) = s i; rw [Nat.zero_add]
          have hv232 : val (sh s 0) (232 - 0) + -k * val y (yn + 1) = val s m - k * val y (yn + 1) := by
            rw [es, Nat.sub_zero, HI.out.1.ext HI.out.1.le, Int.neg_mul]; rfl
          have hne : br ≠ by' := by have h1 := HB.out; have := HX.out.2.1.lt; omega
          have HC := carry_calls br by' false ly m (yn + 1) s y (-k) 0 w7 (H6.out.2.1.to hb7) (HX.out.2.1.to hb7w) hne HI.out.1 HX.out.2.2.2 ⟨by omega, by omega⟩ (by omega) (by rw [hv232]; omega)
            (by
              rw [hv232]
              have h1 := HI.out.1.bd.2
              have h2 := pow_mono HI.out.1.le
              rw [Nat.sub_zero]; omega)
          have H7 := Lib.hid (And.intro hb7q (And.intro (H6.out.2.2.2.1.to hb7) (And.intro hk3 hY1))); clear hb7q hb7w hb7 hKY hY1 es hv232 hk3
          go_wp2_with fail
          refine HC.mono ?_
          rintro e w8 ⟨rfl, h8, hg8⟩
          have H8 := Lib.hid (And.intro h8 hg8); clear HC h8 hg8
          go_wp2_with fail
          go_roundg (val s m - k * val y (yn + 1)).toNat
          case measure => 
            obtain ⟨hs, hsum, ht, hWq, hWr, hbel, hP, hY0, hp0⟩ := HI.out
            have := H7.out.2.2; omega
          case rel =>
            obtain ⟨⟨m', s', hm', hv', hW'⟩, hg8⟩ := H8.out
            obtain ⟨hs, hsum, ht, hWq, hWr, hbel, hP, hY0, hp0⟩ := HI.out
            have h1 := HB.out
            have hne : (some bq : Option Nat) ≠ some br := by rw [h1.1, h1.2]; simp
            have h3 := H7.out.1.size
            have hv2 : val s' m' = val s m - k * val y (yn + 1) := by rw [hv', Int.neg_mul, Int.pow_zero, Int.mul_one]; rfl
            refine ⟨d + k, m', s', rfl, by omega, hm', by rw [hv2, Int.add_mul]; omega, by rw [hv2], H7.out.2.1.grown hg8 hne, hW', below_gb H7.out.1 hg8 (by omega) (by omega)⟩
        · have hlt : val s m < val y (yn + 1) := by
            rcases Int.lt_or_le (val s m) (val y (yn + 1)) with h | h
            · exact h
            · exact absurd (hc.2 h) hc0
          have hWq6 := HI.out.2.2.2.1.to hb6
          have cq := hWq6.c1
          have fq := hWq6.free (2 + g)
          have cg := hWq6.cw g (by omega)
          obtain ⟨qn', hqn'⟩ : ∃ q : Nat, max qn (g + 1) = q := ⟨_, rfl⟩
          have hmax : max (qn : Int) ((g : Int) + 1) = (qn' : Int) := by omega
          have a4 : IntKind.i64.wrap ((g : Int) + 1) = (g : Int) + 1 := IntWalk.i64_in _ (by omega)
          have a5 : IntKind.i64.wrap ((g : Int) - 1) = (g : Int) - 1 := IntWalk.i64_in _ (by omega)
          have cq2 := (hWq6.setW g (by omega) d).c1
          have fq2 := (hWq6.setW g (by omega) d).free 1
          have H6 := Lib.hid (And.intro hlt (And.intro hW6 (And.intro hb6q (And.intro hWq6 hqn')))); clear hlt hW6 hb6q hWq6 hb6w hWy6 hb6 hc hqn'
          go_wp2_with fail
          go_roundg g
          case measure => omega
          case rel =>
            obtain ⟨hr, hf, heq, hlt, hz, hW1, hbel, hbelw, hW3, hg3⟩ := HS.out
            obtain ⟨hs, hsum, ht, hWq, hWr, hbel2, hP, hY0, hp0⟩ := HI.out
            obtain ⟨hlt6, hW6, hb6, hWq6, hqn'⟩ := H6.out
            have h1 := HB.out
            have h3 := hb6.size
            have hgs := fun v u => gb_trans (gb_set w6 bq (2 + g) v) (gb_set (w6.setCell ⟨bq, 2 + g, none⟩ v) bq 1 u)
            have hne : (some br : Option Nat) ≠ some bq := by rw [h1.1, h1.2]; simp
            have hlt' : g < xn := by omega
            refine ⟨m, qn', s, upd f g d, rfl, by omega, hs, ⟨by omega, fun i => ?_, fun i hi => ?_⟩, by omega, ?_, hlt6, fun i hi => ?_, ((hWq6.setW g (by omega) d).setN qn'), hW6.grown (hgs _ _) hne, below_gb hb6 (hgs _ _) (by omega) (by omega)⟩
            · by_cases e : i = g
              · subst e; rw [upd_same]; exact ⟨hd, by omega⟩
              · rw [upd_other e]; exact hf.wd i
            · rw [upd_other (by omega)]; exact hf.z i (by omega)
            · rw [val_sh_cons x g xn hlt', val_sh_cons (upd f g d) g xn hlt', sh_upd, upd_same, heq, HX2.out.2]
              have := hsum
              grind
            · rw [upd_other (by omega)]; exact hz i (by omega)

end Go.Proofs.YtgdlfjofefhdoaaGreatDoor
