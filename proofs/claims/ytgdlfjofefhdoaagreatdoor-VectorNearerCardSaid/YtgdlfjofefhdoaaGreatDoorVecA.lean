/- Package vector: points in the plane: flat, all, to, dot, turn, cross. -/
import Derived.Test.YtgdlfjofefhdoaaGreatDoorRatB
namespace Go.Proofs.YtgdlfjofefhdoaaGreatDoor
open Go.RowKit Go.Sort Go.Lib Mb

theorem ret_b {a b : Bool} (h : a = b) : Ending.returned (.bool a) = .returned (.bool b) := by rw [h]
theorem ret_i {k : IntKind} {a b : Int} (h : a = b) : Ending.returned (.int k a) = .returned (.int k b) := by rw [h]

def inB (n : Int) : Bool := decide (-100000 ≤ n ∧ n ≤ 100000)
def flatB (p : P2) : Bool := inB p.x && inB p.y
abbrev V (p : P2) : Value := .agg #[.int .i64 p.x, .int .i64 p.y]

theorem inB_t {n : Int} (h : inB n = true) : -100000 ≤ n ∧ n ≤ 100000 := by simpa [inB] using h
theorem flatB_t {p : P2} (h : flatB p = true) : (-100000 ≤ p.x ∧ p.x ≤ 100000) ∧ -100000 ≤ p.y ∧ p.y ≤ 100000 := by
  simp only [flatB, Bool.and_eq_true] at h
  exact ⟨inB_t h.1, inB_t h.2⟩

theorem within_calls (n : Int) (w : World) :
    Calls Tryz.prog 106 #[.int .i64 n] w fun e w' => e = .returned (.bool (inB n)) ∧ w = w' := by
  by_cases h1 : -100000 ≤ n
  · by_cases h2 : n ≤ 100000
    · go_enter Tryz.func106, Tryz.ntmps106
      go_wp2
      go_ret
      exact ⟨ret_b (decide_eq_true ⟨h1, h2⟩).symm, rfl⟩
    · go_enter Tryz.func106, Tryz.ntmps106
      go_wp2
      go_ret
      exact ⟨ret_b (decide_eq_false (by omega)).symm, rfl⟩
  · go_enter Tryz.func106, Tryz.ntmps106
    go_wp2
    go_ret
    exact ⟨ret_b (decide_eq_false (by omega)).symm, rfl⟩

theorem flat_calls (p : P2) (w : World) :
    Calls Tryz.prog 52 #[V p] w fun e w' => e = .returned (.bool (flatB p)) ∧ Below w.heap.size w w' := by
  obtain ⟨x, y⟩ := p
  cases h1 : inB x with
  | true =>
    go_enter Tryz.func52, Tryz.ntmps52
    go_wp2_with (go_at_call 106; refine (within_calls _ _).mono ?_; rintro e w' ⟨rfl, rfl⟩)
    go_ret
    exact ⟨ret_b (by simp [flatB, h1]), alloc_below _ _⟩
  | false =>
    go_enter Tryz.func52, Tryz.ntmps52
    go_wp2_with (go_at_call 106; refine (within_calls _ _).mono ?_; rintro e w' ⟨rfl, rfl⟩)
    go_ret
    exact ⟨ret_b (by simp [flatB, h1]), alloc_below _ _⟩

/-- cells that hold points -/
def Pts (w : World) (b o : Nat) (l : List P2) : Prop := b < w.heap.size ∧ ∀ i (h : i < l.length), w.cell? ⟨b, o + i * 2, none⟩ = some (.int .i64 l[i].x) ∧ w.cell? ⟨b, o + i * 2 + 1, none⟩ = some (.int .i64 l[i].y)
theorem Pts.to {w w' : World} {b o : Nat} {l : List P2} (h : Pts w b o l) (hb : Below w.heap.size w w') : Pts w' b o l :=
  ⟨Nat.lt_of_lt_of_le h.1 hb.size, fun i hi => ⟨(hb.cell (p := ⟨b, _, none⟩) h.1).trans (h.2 i hi).1, (hb.cell (p := ⟨b, _, none⟩) h.1).trans (h.2 i hi).2⟩⟩

def errOf (l : List P2) : Int := if l.all flatB then 0 else 2

set_option maxHeartbeats 800000 in
theorem allP_calls (l : List P2) (b o cap : Nat) (w : World) (hT : Pts w b o l) (hn : l.length ≤ 1000000) :
    Calls Tryz.prog 51 #[.func (.func 52) #[] #[], .slice (some ⟨b, o, none⟩) l.length cap] w fun e w' => e = .returned (.int .i64 (errOf l)) ∧ Below w.heap.size w w' := by
  go_enter Tryz.func51, Tryz.ntmps51
  go_wp2
  go_loopg [9] l.length (fun g i wr => ∃ k : Nat, k + g = l.length ∧ i = .int .i64 k ∧ Below w.heap.size w wr ∧ errOf (l.drop k) = errOf l)
  case atStart => exact ⟨0, Nat.zero_add _, rfl, Below.refl _ _, by rw [List.drop_zero]⟩
  case round =>
    obtain ⟨k, hk, rfl, hbel, herr⟩ := hrel
    have HE := Lib.hid herr; clear herr
    by_cases hlt : k < l.length
    · have hp := (hT.to hbel).2 k hlt
      obtain ⟨p, hpp⟩ : ∃ p, l[k] = p := ⟨_, rfl⟩
      rw [hpp] at hp
      obtain ⟨c1, c2⟩ := hp
      have HP := Lib.hid hpp; clear hpp
      cases hf : flatB p with
      | true =>
        have HF := Lib.hid hf
        go_wp2_with fail
        refine (flat_calls p _).mono ?_
        rintro e w1 ⟨rfl, hb1⟩
        go_wp2_with fail
        go_roundg (gk - 1)
        case measure => omega
        case rel =>
          refine ⟨k + 1, by omega, by go_num, hbel.trans ((below_trans (alloc_below _ _) hb1).mono hbel.size), ?_⟩
          rw [← HE.out, List.drop_eq_getElem_cons hlt, HP.out]
          simp [errOf, HF.out]
      | false =>
        have HF := Lib.hid hf
        go_wp2_with fail
        refine (flat_calls p _).mono ?_
        rintro e w1 ⟨rfl, hb1⟩
        go_wp2_with fail
        go_ret
        refine ⟨ret_i ?_, hbel.trans ((below_trans (alloc_below _ _) hb1).mono hbel.size)⟩
        rw [← HE.out, List.drop_eq_getElem_cons hlt, HP.out]
        simp [errOf, HF.out]
    · go_wp2
      go_ret
      refine ⟨ret_i ?_, hbel⟩
      rw [← HE.out, List.drop_eq_nil_of_le (by omega)]; rfl

theorem below2 (w : World) (a b : Obj) : Below w.heap.size w ((w.alloc a).alloc b) := below_trans (alloc_below _ _) (alloc_below _ _)
theorem below3 (w : World) (a b c : Obj) : Below w.heap.size w (((w.alloc a).alloc b).alloc c) := below_trans (below2 _ _ _) (alloc_below _ _)

/-- coordinates of at most this magnitude -/
def Bd (M : Int) (p : P2) : Prop := (-M ≤ p.x ∧ p.x ≤ M) ∧ -M ≤ p.y ∧ p.y ≤ M
theorem Bd.mono {M N : Int} {p : P2} (h : Bd M p) (hm : M ≤ N) : Bd N p := ⟨by have := h.1; omega, by have := h.2; omega⟩
theorem bd_flat {p : P2} (h : flatB p = true) : Bd 100000 p := flatB_t h

def sub (b a : P2) : P2 := ⟨b.x - a.x, b.y - a.y⟩
theorem Bd.sub {M N : Int} {a b : P2} (ha : Bd M a) (hb : Bd N b) : Bd (M + N) (sub b a) := by
  obtain ⟨⟨_, _⟩, _, _⟩ := ha; obtain ⟨⟨_, _⟩, _, _⟩ := hb
  exact ⟨⟨by show _ ≤ b.x - a.x; omega, by show b.x - a.x ≤ _; omega⟩, by show _ ≤ b.y - a.y; omega, by show b.y - a.y ≤ _; omega⟩

set_option maxHeartbeats 400000 in
theorem to_calls (a b : P2) (w : World) (ha : Bd 1000000 a) (hb : Bd 1000000 b) :
    Calls Tryz.prog 53 #[V a, V b] w fun e w' => e = .returned (V (sub b a)) ∧ Below w.heap.size w w' := by
  obtain ⟨⟨a1, a2⟩, a3, a4⟩ := ha
  obtain ⟨⟨b1, b2⟩, b3, b4⟩ := hb
  obtain ⟨ax, ay⟩ := a
  obtain ⟨bx, by'⟩ := b
  simp only at a1 a2 a3 a4 b1 b2 b3 b4
  go_enter Tryz.func53, Tryz.ntmps53
  go_wp2
  exact bodyPost_ret (v := .agg #[.int .i64 (bx - ax), .int .i64 (by' - ay)]) (by simp [results, Tryz.results53, go_sem]) rfl ⟨rfl, below3 _ _ _ _⟩

theorem dot_bd {M : Int} {a b : P2} (ha : Bd M a) (hb : Bd M b) : (-(M * M) ≤ a.x * b.x ∧ a.x * b.x ≤ M * M) ∧ (-(M * M) ≤ a.y * b.y ∧ a.y * b.y ≤ M * M) ∧ (-(M * M) ≤ a.x * b.y ∧ a.x * b.y ≤ M * M) ∧ (-(M * M) ≤ a.y * b.x ∧ a.y * b.x ≤ M * M) :=
  ⟨Mb.mul_bd ha.1 hb.1, Mb.mul_bd ha.2 hb.2, Mb.mul_bd ha.1 hb.2, Mb.mul_bd ha.2 hb.1⟩

set_option maxHeartbeats 400000 in
theorem dot_calls (a b : P2) (w : World) (ha : Bd 1000000000 a) (hb : Bd 1000000000 b) :
    Calls Tryz.prog 57 #[V a, V b] w fun e w' => e = .returned (.int .i64 (dt a b)) ∧ Below w.heap.size w w' := by
  obtain ⟨⟨h1, h2⟩, ⟨h3, h4⟩, -, -⟩ := dot_bd ha hb
  clear ha hb
  obtain ⟨ax, ay⟩ := a
  obtain ⟨bx, by'⟩ := b
  simp only at h1 h2 h3 h4
  go_enter Tryz.func57, Tryz.ntmps57
  go_wp2
  go_ret
  exact ⟨rfl, below2 _ _ _⟩

set_option maxHeartbeats 400000 in
theorem turn_calls (a b : P2) (w : World) (ha : Bd 1000000000 a) (hb : Bd 1000000000 b) :
    Calls Tryz.prog 108 #[V a, V b] w fun e w' => e = .returned (.int .i64 (tw a b)) ∧ Below w.heap.size w w' := by
  obtain ⟨-, -, ⟨h1, h2⟩, ⟨h3, h4⟩⟩ := dot_bd ha hb
  clear ha hb
  obtain ⟨ax, ay⟩ := a
  obtain ⟨bx, by'⟩ := b
  simp only at h1 h2 h3 h4
  go_enter Tryz.func108, Tryz.ntmps108
  go_wp2
  go_ret
  exact ⟨rfl, below2 _ _ _⟩

theorem tw_sub (a b c : P2) : tw (sub b a) (sub c a) = crs a b c := rfl

theorem cell_new (w : World) (cs : Array Value) (t : TypeId) (i : Nat) (v : Value) (h : cs[i]? = some v) : (w.alloc (.cells cs t)).cell? ⟨w.heap.size, i, none⟩ = some v := by
  rw [World.cell?_alloc_at _ _ _ _ rfl]; exact h

theorem cell_to {w w' : World} {b i : Nat} {v : Value} (h : w.cell? ⟨b, i, none⟩ = some v) (hb : Below w.heap.size w w') : w'.cell? ⟨b, i, none⟩ = some v :=
  (hb.cell (p := ⟨b, i, none⟩) (World.block_lt_of_cell? _ _ h)).trans h

theorem size_alloc1 (w : World) (o : Obj) : (w.alloc o).heap.size = w.heap.size + 1 := by simp

theorem follows : Tryz.prog.follows .mixedOrders = true := by kernel_rfl

set_option maxHeartbeats 800000 in
theorem cross_calls (a b c : P2) (w : World) (ha : Bd 1000000 a) (hb : Bd 1000000 b) (hc : Bd 1000000 c) :
    Calls Tryz.prog 55 #[V a, V b, V c] w fun e w' => e = .returned (.int .i64 (crs a b c)) ∧ Below w.heap.size w w' := by
  have h1 := (ha.sub hb).mono (show (1000000 : Int) + 1000000 ≤ 1000000000 by omega)
  have h2 := (ha.sub hc).mono (show (1000000 : Int) + 1000000 ≤ 1000000000 by omega)
  go_enter Tryz.func55, Tryz.ntmps55
  go_wp2_with fail
  obtain ⟨W, hW⟩ : ∃ W, W = ((w.alloc (.cells #[.int .i64 a.x, .int .i64 a.y] 23)).alloc (.cells #[.int .i64 b.x, .int .i64 b.y] 23)).alloc (.cells #[.int .i64 c.x, .int .i64 c.y] 23) := ⟨_, rfl⟩
  rw [← hW]
  have hbel : Below w.heap.size w W := by rw [hW]; exact below3 _ _ _ _
  have c1 : W.cell? ⟨w.heap.size, 0, none⟩ = some (.int .i64 a.x) := by rw [hW]; exact cell_to (cell_new _ _ _ _ _ rfl) (below2 _ _ _)
  have c2 : W.cell? ⟨w.heap.size, 1, none⟩ = some (.int .i64 a.y) := by rw [hW]; exact cell_to (cell_new _ _ _ _ _ rfl) (below2 _ _ _)
  have c3 : W.cell? ⟨w.heap.size + 1, 0, none⟩ = some (.int .i64 b.x) := by rw [hW, ← size_alloc1]; exact cell_to (cell_new _ _ _ _ _ rfl) (alloc_below _ _)
  have c4 : W.cell? ⟨w.heap.size + 1, 1, none⟩ = some (.int .i64 b.y) := by rw [hW, ← size_alloc1]; exact cell_to (cell_new _ _ _ _ _ rfl) (alloc_below _ _)
  have c5 : W.cell? ⟨w.heap.size + 2, 0, none⟩ = some (.int .i64 c.x) := by rw [hW, show w.heap.size + 2 = (w.heap.size + 1) + 1 by omega, ← size_alloc1, ← size_alloc1]; exact cell_new _ _ _ _ _ rfl
  have c6 : W.cell? ⟨w.heap.size + 2, 1, none⟩ = some (.int .i64 c.y) := by rw [hW, show w.heap.size + 2 = (w.heap.size + 1) + 1 by omega, ← size_alloc1, ← size_alloc1]; exact cell_new _ _ _ _ _ rfl
  clear hW
  have k1 := cell_regrown c1
  have k2 := cell_regrown c2
  have k3 := cell_regrown c3
  have k4 := cell_regrown c4
  have k5 := cell_regrown c5
  have k6 := cell_regrown c6
  have q1 : ∀ d os, Calls Tryz.prog 53 #[V a, V b] (grow (redrawn W d) os) fun e w'' => e = .returned (V (sub b a)) ∧ ∃ p : Regrown, w'' = grow (redrawn W p.d) p.os := fun d os => Calls.regrown_of (to_calls a b _ ha hb)
  have q2 : ∀ d os, Calls Tryz.prog 53 #[V a, V c] (grow (redrawn W d) os) fun e w'' => e = .returned (V (sub c a)) ∧ ∃ p : Regrown, w'' = grow (redrawn W p.d) p.os := fun d os => Calls.regrown_of (to_calls a c _ ha hc)
  have q3 : ∀ d os, Calls Tryz.prog 108 #[V (sub b a), V (sub c a)] (grow (redrawn W d) os) fun e w'' => e = .returned (.int .i64 (crs a b c)) ∧ ∃ p : Regrown, w'' = grow (redrawn W p.d) p.os := fun d os => Calls.regrown_of (turn_calls _ _ _ h1 h2)
  refine wp_region_quiet_below follows (by kernel_rfl) ?_
  repeat (quiet_step (first | with_reducible exact q1 _ _ | with_reducible exact q2 _ _ | with_reducible exact q3 _ _))
  refine wpQuiet_nil ?_
  intro _ hw'
  obtain ⟨⟨dq, osq⟩, hw''⟩ := hw'
  subst hw''
  go_wp2_with fail
  go_ret
  exact ⟨rfl, below_trans hbel (below_regrown W dq osq)⟩

end Go.Proofs.YtgdlfjofefhdoaaGreatDoor
