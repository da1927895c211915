/- Package vector: points in the plane: flat, all, to, dot, turn, cross. Package vector: Cross, Dot, Side, Square. Package vector: Dot, squared, ToLine, ToSegment (over what the integers' operations do). Two points are compared in one step. Package vector: squared, ToLine, ToSegment (over what the integers' operations do). -/
import Derived.Test.YtgdlfjofefhdoaaGreatDoorRatAB
import Derived.Laws.StructEq
namespace Go.Proofs.YtgdlfjofefhdoaaGreatDoor
open Go.RowKit Go.Sort Go.Lib Mb

theorem ret_b {a b : Bool} (h : a = b) : Ending.returned (.bool a) = .returned (.bool b) := by rw [h]
theorem ret_i {k : IntKind} {a b : Int} (h : a = b) : Ending.returned (.int k a) = .returned (.int k b) := by rw [h]

def inB (n : Int) : Bool := decide (-100000 ≤ n ∧ n ≤ 100000)
def flatB (p : P2) : Bool := inB p.x && inB p.y
abbrev V (p : P2) : Value := .agg #[.int .i64 p.x, .int .i64 p.y]

theorem inB_t {n : Int} (h : inB n = true) : -100000 ≤ n ∧ n ≤ 100000 := by simpa [inB] using h
theorem flatB_t {p : P2} (h : flatB p = true) : (-100000 ≤ p.x ∧ p.x ≤ 100000) ∧ -100000 ≤ p.y ∧ p.y ≤ 100000 := by
  simp only [flatB, Bool.and_eq_true] at h
  exact ⟨inB_t h.1, inB_t h.2⟩

theorem within_calls (n : Int) (w : World) :
    Calls Tryz.prog 106 #[.int .i64 n] w fun e w' => e = .returned (.bool (inB n)) ∧ w = w' := by
  by_cases h1 : -100000 ≤ n
  · by_cases h2 : n ≤ 100000
    · go_enter Tryz.func106, Tryz.ntmps106
      go_wp2
      go_ret
      exact ⟨ret_b (decide_eq_true ⟨h1, h2⟩).symm, rfl⟩
    · go_enter Tryz.func106, Tryz.ntmps106
      go_wp2
      go_ret
      exact ⟨ret_b (decide_eq_false (by omega)).symm, rfl⟩
  · go_enter Tryz.func106, Tryz.ntmps106
    go_wp2
    go_ret
    exact ⟨ret_b (decide_eq_false (by omega)).symm, rfl⟩

theorem flat_calls (p : P2) (w : World) :
    Calls Tryz.prog 52 #[V p] w fun e w' => e = .returned (.bool (flatB p)) ∧ Below w.heap.size w w' := by
  obtain ⟨x, y⟩ := p
  cases h1 : inB x with
  | true =>
    go_enter Tryz.func52, Tryz.ntmps52
    go_wp2_with (go_at_call 106; refine (within_calls _ _).mono ?_; rintro e w' ⟨rfl, rfl⟩)
    go_ret
    exact ⟨ret_b (by simp [flatB, h1]), alloc_below _ _⟩
  | false =>
    go_enter Tryz.func52, Tryz.ntmps52
    go_wp2_with (go_at_call 106; refine (within_calls _ _).mono ?_; rintro e w' ⟨rfl, rfl⟩)
    go_ret
    exact ⟨ret_b (by simp [flatB, h1]), alloc_below _ _⟩

/-- cells that hold points -/
def Pts (w : World) (b o : Nat) (l : List P2) : Prop := b < w.heap.size ∧ ∀ i (h : i < l.length), w.cell? ⟨b, o + i * 2, none⟩ = some (.int .i64 l[i].x) ∧ w.cell? ⟨b, o + i * 2 + 1, none⟩ = some (.int .i64 l[i].y)
theorem Pts.to {w w' : World} {b o : Nat} {l : List P2} (h : Pts w b o l) (hb : Below w.heap.size w w') : Pts w' b o l :=
  ⟨Nat.lt_of_lt_of_le h.1 hb.size, fun i hi => ⟨(hb.cell (p := ⟨b, _, none⟩) h.1).trans (h.2 i hi).1, (hb.cell (p := ⟨b, _, none⟩) h.1).trans (h.2 i hi).2⟩⟩

def errOf (l : List P2) : Int := if l.all flatB then 0 else 2

set_option maxHeartbeats 800000 in
theorem allP_calls (l : List P2) (b o cap : Nat) (w : World) (hT : Pts w b o l) (hn : l.length ≤ 1000000) :
    Calls Tryz.prog 51 #[.func (.func 52) #[] #[], .slice (some ⟨b, o, none⟩) l.length cap] w fun e w' => e = .returned (.int .i64 (errOf l)) ∧ Below w.heap.size w w' := by
  go_enter Tryz.func51, Tryz.ntmps51
  go_wp2
  go_loopg [9] l.length (fun g i wr => ∃ k : Nat, k + g = l.length ∧ i = .int .i64 k ∧ Below w.heap.size w wr ∧ errOf (l.drop k) = errOf l)
  case atStart => exact ⟨0, Nat.zero_add _, rfl, Below.refl _ _, by rw [List.drop_zero]⟩
  case round =>
    obtain ⟨k, hk, rfl, hbel, herr⟩ := hrel
    have HE := Lib.hid herr; clear herr
    by_cases hlt : k < l.length
    · have hp := (hT.to hbel).2 k hlt
      obtain ⟨p, hpp⟩ : ∃ p, l[k] = p := ⟨_, rfl⟩
      rw [hpp] at hp
      obtain ⟨c1, c2⟩ := hp
      have HP := Lib.hid hpp; clear hpp
      cases hf : flatB p with
      | true =>
        have HF := Lib.hid hf
        go_wp2_with fail
        refine (flat_calls p _).mono ?_
        rintro e w1 ⟨rfl, hb1⟩
        go_wp2_with fail
        go_roundg (gk - 1)
        case measure => omega
        case rel =>
          refine ⟨k + 1, by omega, by go_num, hbel.trans ((below_trans (alloc_below _ _) hb1).mono hbel.size), ?_⟩
          rw [← HE.out, List.drop_eq_getElem_cons hlt, HP.out]
          simp [errOf, HF.out]
      | false =>
        have HF := Lib.hid hf
        go_wp2_with fail
        refine (flat_calls p _).mono ?_
        rintro e w1 ⟨rfl, hb1⟩
        go_wp2_with fail
        go_ret
        refine ⟨ret_i ?_, hbel.trans ((below_trans (alloc_below _ _) hb1).mono hbel.size)⟩
        rw [← HE.out, List.drop_eq_getElem_cons hlt, HP.out]
        simp [errOf, HF.out]
    · go_wp2
      go_ret
      refine ⟨ret_i ?_, hbel⟩
      rw [← HE.out, List.drop_eq_nil_of_le (by omega)]; rfl

theorem below2 (w : World) (a b : Obj) : Below w.heap.size w ((w.alloc a).alloc b) := below_trans (alloc_below _ _) (alloc_below _ _)
theorem below3 (w : World) (a b c : Obj) : Below w.heap.size w (((w.alloc a).alloc b).alloc c) := below_trans (below2 _ _ _) (alloc_below _ _)

/-- coordinates of at most this magnitude -/
def Bd (M : Int) (p : P2) : Prop := (-M ≤ p.x ∧ p.x ≤ M) ∧ -M ≤ p.y ∧ p.y ≤ M
theorem Bd.mono {M N : Int} {p : P2} (h : Bd M p) (hm : M ≤ N) : Bd N p := ⟨by have := h.1; omega, by have := h.2; omega⟩
theorem bd_flat {p : P2} (h : flatB p = true) : Bd 100000 p := flatB_t h

def sub (b a : P2) : P2 := ⟨b.x - a.x, b.y - a.y⟩
theorem Bd.sub {M N : Int} {a b : P2} (ha : Bd M a) (hb : Bd N b) : Bd (M + N) (sub b a) := by
  obtain ⟨⟨_, _⟩, _, _⟩ := ha; obtain ⟨⟨_, _⟩, _, _⟩ := hb
  exact ⟨⟨by show _ ≤ b.x - a.x; omega, by show b.x - a.x ≤ _; omega⟩, by show _ ≤ b.y - a.y; omega, by show b.y - a.y ≤ _; omega⟩

set_option maxHeartbeats 400000 in
theorem to_calls (a b : P2) (w : World) (ha : Bd 1000000 a) (hb : Bd 1000000 b) :
    Calls Tryz.prog 53 #[V a, V b] w fun e w' => e = .returned (V (sub b a)) ∧ Below w.heap.size w w' := by
  obtain ⟨⟨a1, a2⟩, a3, a4⟩ := ha
  obtain ⟨⟨b1, b2⟩, b3, b4⟩ := hb
  obtain ⟨ax, ay⟩ := a
  obtain ⟨bx, by'⟩ := b
  simp only at a1 a2 a3 a4 b1 b2 b3 b4
  go_enter Tryz.func53, Tryz.ntmps53
  go_wp2
  exact bodyPost_ret (v := .agg #[.int .i64 (bx - ax), .int .i64 (by' - ay)]) (by simp [results, Tryz.results53, go_sem]) rfl ⟨rfl, below3 _ _ _ _⟩

theorem dot_bd {M : Int} {a b : P2} (ha : Bd M a) (hb : Bd M b) : (-(M * M) ≤ a.x * b.x ∧ a.x * b.x ≤ M * M) ∧ (-(M * M) ≤ a.y * b.y ∧ a.y * b.y ≤ M * M) ∧ (-(M * M) ≤ a.x * b.y ∧ a.x * b.y ≤ M * M) ∧ (-(M * M) ≤ a.y * b.x ∧ a.y * b.x ≤ M * M) :=
  ⟨Mb.mul_bd ha.1 hb.1, Mb.mul_bd ha.2 hb.2, Mb.mul_bd ha.1 hb.2, Mb.mul_bd ha.2 hb.1⟩

set_option maxHeartbeats 400000 in
theorem dot_calls (a b : P2) (w : World) (ha : Bd 1000000000 a) (hb : Bd 1000000000 b) :
    Calls Tryz.prog 57 #[V a, V b] w fun e w' => e = .returned (.int .i64 (dt a b)) ∧ Below w.heap.size w w' := by
  obtain ⟨⟨h1, h2⟩, ⟨h3, h4⟩, -, -⟩ := dot_bd ha hb
  clear ha hb
  obtain ⟨ax, ay⟩ := a
  obtain ⟨bx, by'⟩ := b
  simp only at h1 h2 h3 h4
  go_enter Tryz.func57, Tryz.ntmps57
  go_wp2
  go_ret
  exact ⟨rfl, below2 _ _ _⟩

set_option maxHeartbeats 400000 in
theorem turn_calls (a b : P2) (w : World) (ha : Bd 1000000000 a) (hb : Bd 1000000000 b) :
    Calls Tryz.prog 108 #[V a, V b] w fun e w' => e = .returned (.int .i64 (tw a b)) ∧ Below w.heap.size w w' := by
  obtain ⟨-, -, ⟨h1, h2⟩, ⟨h3, h4⟩⟩ := dot_bd ha hb
  clear ha hb
  obtain ⟨ax, ay⟩ := a
  obtain ⟨bx, by'⟩ := b
  simp only at h1 h2 h3 h4
  go_enter Tryz.func108, Tryz.ntmps108
  go_wp2
  go_ret
  exact ⟨rfl, below2 _ _ _⟩

theorem tw_sub (a b c : P2) : tw (sub b a) (sub c a) = crs a b c := rfl

theorem cell_new (w : World) (cs : Array Value) (t : TypeId) (i : Nat) (v : Value) (h : cs[i]? = some v) : (w.alloc (.cells cs t)).cell? ⟨w.heap.size, i, none⟩ = some v := by
  rw [World.cell?_alloc_at _ _ _ _ rfl]; exact h

theorem cell_to {w w' : World} {b i : Nat} {v : Value} (h : w.cell? ⟨b, i, none⟩ = some v) (hb : Below w.heap.size w w') : w'.cell? ⟨b, i, none⟩ = some v :=
  (hb.cell (p := ⟨b, i, none⟩) (World.block_lt_of_cell? _ _ h)).trans h

theorem size_alloc1 (w : World) (o : Obj) : (w.alloc o).heap.size = w.heap.size + 1 := by simp

theorem follows : Tryz.prog.follows .mixedOrders = true := by kernel_rfl

set_option maxHeartbeats 800000 in
theorem cross_calls (a b c : P2) (w : World) (ha : Bd 1000000 a) (hb : Bd 1000000 b) (hc : Bd 1000000 c) :
    Calls Tryz.prog 55 #[V a, V b, V c] w fun e w' => e = .returned (.int .i64 (crs a b c)) ∧ Below w.heap.size w w' := by
  have h1 := (ha.sub hb).mono (show (1000000 : Int) + 1000000 ≤ 1000000000 by omega)
  have h2 := (ha.sub hc).mono (show (1000000 : Int) + 1000000 ≤ 1000000000 by omega)
  go_enter Tryz.func55, Tryz.ntmps55
  go_wp2_with fail
  obtain ⟨W, hW⟩ : ∃ W, W = ((w.alloc (.cells #[.int .i64 a.x, .int .i64 a.y] 23)).alloc (.cells #[.int .i64 b.x, .int .i64 b.y] 23)).alloc (.cells #[.int .i64 c.x, .int .i64 c.y] 23) := ⟨_, rfl⟩
  rw [← hW]
  have hbel : Below w.heap.size w W := by rw [hW]; exact below3 _ _ _ _
  have c1 : W.cell? ⟨w.heap.size, 0, none⟩ = some (.int .i64 a.x) := by rw [hW]; exact cell_to (cell_new _ _ _ _ _ rfl) (below2 _ _ _)
  have c2 : W.cell? ⟨w.heap.size, 1, none⟩ = some (.int .i64 a.y) := by rw [hW]; exact cell_to (cell_new _ _ _ _ _ rfl) (below2 _ _ _)
  have c3 : W.cell? ⟨w.heap.size + 1, 0, none⟩ = some (.int .i64 b.x) := by rw [hW, ← size_alloc1]; exact cell_to (cell_new _ _ _ _ _ rfl) (alloc_below _ _)
  have c4 : W.cell? ⟨w.heap.size + 1, 1, none⟩ = some (.int .i64 b.y) := by rw [hW, ← size_alloc1]; exact cell_to (cell_new _ _ _ _ _ rfl) (alloc_below _ _)
  have c5 : W.cell? ⟨w.heap.size + 2, 0, none⟩ = some (.int .i64 c.x) := by rw [hW, show w.heap.size + 2 = (w.heap.size + 1) + 1 by omega, ← size_alloc1, ← size_alloc1]; exact cell_new _ _ _ _ _ rfl
  have c6 : W.cell? ⟨w.heap.size + 2, 1, none⟩ = some (.int .i64 c.y) := by rw [hW, show w.heap.size + 2 = (w.heap.size + 1) + 1 by omega, ← size_alloc1, ← size_alloc1]; exact cell_new _ _ _ _ _ rfl
  clear hW
  have k1 := cell_regrown c1
  have k2 := cell_regrown c2
  have k3 := cell_regrown c3
  have k4 := cell_regrown c4
  have k5 := cell_regrown c5
  have k6 := cell_regrown c6
  have q1 : ∀ d os, Calls Tryz.prog 53 #[V a, V b] (grow (redrawn W d) os) fun e w'' => e = .returned (V (sub b a)) ∧ ∃ p : Regrown, w'' = grow (redrawn W p.d) p.os := fun d os => Calls.regrown_of (to_calls a b _ ha hb)
  have q2 : ∀ d os, Calls Tryz.prog 53 #[V a, V c] (grow (redrawn W d) os) fun e w'' => e = .returned (V (sub c a)) ∧ ∃ p : Regrown, w'' = grow (redrawn W p.d) p.os := fun d os => Calls.regrown_of (to_calls a c _ ha hc)
  have q3 : ∀ d os, Calls Tryz.prog 108 #[V (sub b a), V (sub c a)] (grow (redrawn W d) os) fun e w'' => e = .returned (.int .i64 (crs a b c)) ∧ ∃ p : Regrown, w'' = grow (redrawn W p.d) p.os := fun d os => Calls.regrown_of (turn_calls _ _ _ h1 h2)
  refine wp_region_quiet_below follows (by kernel_rfl) ?_
  repeat (quiet_step (first | with_reducible exact q1 _ _ | with_reducible exact q2 _ _ | with_reducible exact q3 _ _))
  refine wpQuiet_nil ?_
  intro _ hw'
  obtain ⟨⟨dq, osq⟩, hw''⟩ := hw'
  subst hw''
  go_wp2_with fail
  go_ret
  exact ⟨rfl, below_trans hbel (below_regrown W dq osq)⟩

end Go.Proofs.YtgdlfjofefhdoaaGreatDoor

namespace Go.Proofs.YtgdlfjofefhdoaaGreatDoor
open Go.RowKit Go.Sort Go.Lib Mb

/-- a block that holds one point -/
def Bx (w : World) (b : Nat) (p : P2) : Prop := w.cell? ⟨b, 0, none⟩ = some (.int .i64 p.x) ∧ w.cell? ⟨b, 1, none⟩ = some (.int .i64 p.y)
theorem Bx.to {w w' : World} {b : Nat} {p : P2} (h : Bx w b p) (hb : Below w.heap.size w w') : Bx w' b p := ⟨cell_to h.1 hb, cell_to h.2 hb⟩
theorem bx_new (w : World) (p : P2) (t : TypeId) : Bx (w.alloc (.cells #[.int .i64 p.x, .int .i64 p.y] t)) w.heap.size p := ⟨cell_new _ _ _ _ _ rfl, cell_new _ _ _ _ _ rfl⟩

abbrev B2 (p : P2) (t : TypeId) : Obj := .cells #[.int .i64 p.x, .int .i64 p.y] t

theorem box2 (w : World) (a b : P2) (t u : TypeId) : Bx ((w.alloc (B2 a t)).alloc (B2 b u)) w.heap.size a ∧ Bx ((w.alloc (B2 a t)).alloc (B2 b u)) (w.heap.size + 1) b :=
  ⟨(bx_new _ _ _).to (alloc_below _ _), by have := bx_new (w.alloc (B2 a t)) b u; rwa [size_alloc1] at this⟩

theorem box3 (w : World) (a b c : P2) (t u v : TypeId) : Bx (((w.alloc (B2 a t)).alloc (B2 b u)).alloc (B2 c v)) w.heap.size a ∧ Bx (((w.alloc (B2 a t)).alloc (B2 b u)).alloc (B2 c v)) (w.heap.size + 1) b ∧ Bx (((w.alloc (B2 a t)).alloc (B2 b u)).alloc (B2 c v)) (w.heap.size + 2) c :=
  ⟨(box2 w a b t u).1.to (alloc_below _ _), (box2 w a b t u).2.to (alloc_below _ _), by have := bx_new ((w.alloc (B2 a t)).alloc (B2 b u)) c v; rwa [size_alloc1, size_alloc1] at this⟩

theorem pts_new2 (w : World) (a b : P2) (t : TypeId) : Pts (w.alloc (.cells #[.int .i64 a.x, .int .i64 a.y, .int .i64 b.x, .int .i64 b.y] t)) w.heap.size 0 [a, b] := by
  refine ⟨by simp, fun i h => ?_⟩
  match i, h with
  | 0, _ => exact ⟨cell_new _ _ _ _ _ rfl, cell_new _ _ _ _ _ rfl⟩
  | 1, _ => exact ⟨cell_new _ _ _ _ _ rfl, cell_new _ _ _ _ _ rfl⟩

theorem pts_new3 (w : World) (a b c : P2) (t : TypeId) : Pts (w.alloc (.cells #[.int .i64 a.x, .int .i64 a.y, .int .i64 b.x, .int .i64 b.y, .int .i64 c.x, .int .i64 c.y] t)) w.heap.size 0 [a, b, c] := by
  refine ⟨by simp, fun i h => ?_⟩
  match i, h with
  | 0, _ => exact ⟨cell_new _ _ _ _ _ rfl, cell_new _ _ _ _ _ rfl⟩
  | 1, _ => exact ⟨cell_new _ _ _ _ _ rfl, cell_new _ _ _ _ _ rfl⟩
  | 2, _ => exact ⟨cell_new _ _ _ _ _ rfl, cell_new _ _ _ _ _ rfl⟩

theorem allP_is (l : List P2) (k : Int) (hk : errOf l = k) (b o cap n : Nat) (hl : l.length = n) (w : World) (hT : Pts w b o l) (hn : l.length ≤ 1000000) :
    Calls Tryz.prog 51 #[.func (.func 52) #[] #[], .slice (some ⟨b, o, none⟩) n cap] w fun e w' => e = .returned (.int .i64 k) ∧ Below w.heap.size w w' := by
  subst hl; subst hk; exact allP_calls l b o cap w hT hn

theorem err_ok {l : List P2} (h : ∀ p ∈ l, flatB p = true) : errOf l = 0 := by
  unfold errOf; rw [if_pos (by simpa using h)]

set_option maxHeartbeats 800000 in
theorem Cross_ok (a b c : P2) (w : World) (ha : flatB a = true) (hb : flatB b = true) (hc : flatB c = true) :
    Calls Tryz.prog 62 #[V a, V b, V c] w fun e w' => e = .returned (.tuple #[.int .i64 (crs a b c), .int .i64 0]) ∧ Below w.heap.size w w' := by
  have he : errOf [a, b, c] = 0 := err_ok (by simp [ha, hb, hc])
  have hx := box3 w a b c 23 23 23
  have hp := pts_new3 (((w.alloc (B2 a 23)).alloc (B2 b 23)).alloc (B2 c 23)) a b c 23
  rw [size_alloc1, size_alloc1, size_alloc1] at hp
  have HX := Lib.hid (And.intro hx hp); clear hx hp
  have HE := Lib.hid he; clear he
  have HA := Lib.hid (And.intro (bd_flat ha) (And.intro (bd_flat hb) (bd_flat hc))); clear ha hb hc
  go_enter Tryz.func62, Tryz.ntmps62
  go_wp2_with fail
  refine (allP_is [a, b, c] 0 HE.out _ 0 _ 3 rfl _ HX.out.2 (by simp)).mono ?_
  rintro e w1 ⟨rfl, hb1⟩
  have hb0 := below_trans (below_trans (below3 w _ _ _) (alloc_below _ _)) hb1
  have h1 := (HX.out.1.1.to (alloc_below _ _)).to hb1
  have h2 := (HX.out.1.2.1.to (alloc_below _ _)).to hb1
  have h3 := (HX.out.1.2.2.to (alloc_below _ _)).to hb1
  clear HX hb1
  obtain ⟨k1, k2⟩ := h1
  obtain ⟨k3, k4⟩ := h2
  obtain ⟨k5, k6⟩ := h3
  go_wp2_with fail
  have hA := HA.out
  refine (cross_calls a b c _ (hA.1.mono (by omega)) (hA.2.1.mono (by omega)) (hA.2.2.mono (by omega))).mono ?_
  rintro e w2 ⟨rfl, hb2⟩
  go_wp2_with fail
  go_ret2
  exact ⟨rfl, below_trans hb0 hb2⟩

set_option maxHeartbeats 800000 in
theorem Cross_err (a b c : P2) (w : World) (he : errOf [a, b, c] = 2) :
    Calls Tryz.prog 62 #[V a, V b, V c] w fun e w' => e = .returned (.tuple #[.int .i64 0, .int .i64 2]) ∧ Below w.heap.size w w' := by
  have hp := pts_new3 (((w.alloc (B2 a 23)).alloc (B2 b 23)).alloc (B2 c 23)) a b c 23
  rw [size_alloc1, size_alloc1, size_alloc1] at hp
  have HX := Lib.hid hp; clear hp
  have HE := Lib.hid he; clear he
  go_enter Tryz.func62, Tryz.ntmps62
  go_wp2_with fail
  refine (allP_is [a, b, c] 2 HE.out _ 0 _ 3 rfl _ HX.out (by simp)).mono ?_
  rintro e w1 ⟨rfl, hb1⟩
  have hb0 := below_trans (below_trans (below3 w _ _ _) (alloc_below _ _)) hb1
  clear HX hb1
  go_wp2_with fail
  go_ret2
  exact ⟨rfl, hb0⟩

def sgn (n : Int) : Int := if n < 0 then -1 else if 0 < n then 1 else 0

theorem far_eq (a b : P2) : dt (sub b a) (sub b a) = far a b := rfl

set_option maxHeartbeats 800000 in
theorem Square_ok (a b : P2) (w : World) (ha : flatB a = true) (hb : flatB b = true) :
    Calls Tryz.prog 25 #[V a, V b] w fun e w' => e = .returned (.tuple #[.int .i64 (far a b), .int .i64 0]) ∧ Below w.heap.size w w' := by
  have he : errOf [a, b] = 0 := err_ok (by simp [ha, hb])
  have hx := box2 w a b 23 23
  have hp := pts_new2 ((w.alloc (B2 a 23)).alloc (B2 b 23)) a b 23
  rw [size_alloc1, size_alloc1] at hp
  have HX := Lib.hid (And.intro hx hp); clear hx hp
  have HE := Lib.hid he; clear he
  have HA := Lib.hid (And.intro (bd_flat ha) (bd_flat hb)); clear ha hb
  go_enter Tryz.func25, Tryz.ntmps25
  go_wp2_with fail
  refine (allP_is [a, b] 0 HE.out _ 0 _ 2 rfl _ HX.out.2 (by simp)).mono ?_
  rintro e w1 ⟨rfl, hb1⟩
  have hb0 := below_trans (below_trans (below2 w _ _) (alloc_below _ _)) hb1
  have h1 := (HX.out.1.1.to (alloc_below _ _)).to hb1
  have h2 := (HX.out.1.2.to (alloc_below _ _)).to hb1
  clear HX hb1
  obtain ⟨k1, k2⟩ := h1
  obtain ⟨k3, k4⟩ := h2
  go_wp2_with fail
  refine (to_calls a b _ (HA.out.1.mono (by omega)) (HA.out.2.mono (by omega))).mono ?_
  rintro e w2 ⟨rfl, hb2⟩
  have hs := (HA.out.1.sub HA.out.2).mono (show (100000 : Int) + 100000 ≤ 1000000000 by omega)
  have HS := Lib.hid hs; clear hs
  go_wp2_with fail
  refine (dot_calls _ _ _ HS.out HS.out).mono ?_
  rintro e w3 ⟨rfl, hb3⟩
  go_wp2_with fail
  go_ret2
  exact ⟨rfl, below_trans (below_trans (below_trans hb0 hb2) (alloc_below _ _)) hb3⟩

set_option maxHeartbeats 800000 in
theorem Square_err (a b : P2) (w : World) (he : errOf [a, b] = 2) :
    Calls Tryz.prog 25 #[V a, V b] w fun e w' => e = .returned (.tuple #[.int .i64 0, .int .i64 2]) ∧ Below w.heap.size w w' := by
  have hp := pts_new2 ((w.alloc (B2 a 23)).alloc (B2 b 23)) a b 23
  rw [size_alloc1, size_alloc1] at hp
  have HX := Lib.hid hp; clear hp
  have HE := Lib.hid he; clear he
  go_enter Tryz.func25, Tryz.ntmps25
  go_wp2_with fail
  refine (allP_is [a, b] 2 HE.out _ 0 _ 2 rfl _ HX.out (by simp)).mono ?_
  rintro e w1 ⟨rfl, hb1⟩
  have hb0 := below_trans (below_trans (below2 w _ _) (alloc_below _ _)) hb1
  clear HX hb1
  go_wp2_with fail
  go_ret2
  exact ⟨rfl, hb0⟩

end Go.Proofs.YtgdlfjofefhdoaaGreatDoor

namespace Go.Proofs.YtgdlfjofefhdoaaGreatDoor
open Go.RowKit Go.Sort Go.Lib Mb

/-- a block known whole, nothing of it frozen -/
def Blk (w : World) (b : Nat) (cs : Array Value) (t : TypeId) : Prop := w.heap[b]? = some (.cells cs t (0, 0))
theorem Blk.c {w : World} {b : Nat} {cs : Array Value} {t : TypeId} (h : Blk w b cs t) (i : Nat) (v : Value) (hi : cs[i]? = some v) : w.cell? ⟨b, i, none⟩ = some v := by unfold Blk at h; simp [World.cell?, h, hi]
theorem Blk.free {w : World} {b : Nat} {cs : Array Value} {t : TypeId} (h : Blk w b cs t) (i : Nat) : w.frozen? ⟨b, i, none⟩ = false := by unfold Blk at h; simp [World.frozen?, h]
theorem Blk.lt {w : World} {b : Nat} {cs : Array Value} {t : TypeId} (h : Blk w b cs t) : b < w.heap.size := (Array.getElem?_eq_some_iff.1 h).1
theorem Blk.to {w w' : World} {b : Nat} {cs : Array Value} {t : TypeId} (h : Blk w b cs t) (hb : Below w.heap.size w w') : Blk w' b cs t := by unfold Blk at *; rw [hb.block b (Array.getElem?_eq_some_iff.1 h).1]; exact h
theorem blk_new (w : World) (cs : Array Value) (t : TypeId) : Blk (w.alloc (.cells cs t)) w.heap.size cs t := by unfold Blk World.alloc; simp
theorem blk_new1 (w : World) (o : Obj) (cs : Array Value) (t : TypeId) : Blk ((w.alloc o).alloc (.cells cs t)) (w.heap.size + 1) cs t := by have := blk_new (w.alloc o) cs t; rwa [size_alloc1] at this

theorem Blk.set {w : World} {b : Nat} {cs : Array Value} {t : TypeId} (h : Blk w b cs t) (i : Nat) (v : Value) : Blk (w.setCell ⟨b, i, none⟩ v) b (cs.setIfInBounds i v) t := by
  unfold Blk at *
  simp [World.setCell, Array.getElem?_modify, h]

set_option maxHeartbeats 400000 in
theorem toward_calls (a : P2) (w : World) (ha : Bd 1000000 a) :
    Calls Tryz.prog 78 #[V a] w fun e w' => e = .returned (V a) ∧ Below w.heap.size w w' := by
  have hz : Bd 1000000 ⟨0, 0⟩ := ⟨⟨by simp, by simp⟩, by simp, by simp⟩
  have HZ := Lib.hid (And.intro hz ha); clear hz ha
  have hsub : sub a ⟨0, 0⟩ = a := by unfold sub; simp
  have HS := Lib.hid hsub; clear hsub
  go_enter Tryz.func78, Tryz.ntmps78
  go_wp2_with fail
  refine (to_calls ⟨0, 0⟩ a _ HZ.out.1 HZ.out.2).mono ?_
  rintro e w1 ⟨rfl, hb1⟩
  have hb0 := below_trans (below2 w _ _) hb1
  have hn := (blk_new1 w (B2 a 23) #[.int .i64 0, .int .i64 0] 91).to hb1
  have c0 : w1.cell? ⟨w.heap.size + 1, 0, none⟩ = some (.int .i64 0) := hn.c 0 _ rfl
  have c1 : w1.cell? ⟨w.heap.size + 1, 1, none⟩ = some (.int .i64 0) := hn.c 1 _ rfl
  have f0 := hn.free 0
  have f1 := hn.free 1
  have r0 : (w1.setCell ⟨w.heap.size + 1, 0, none⟩ (.int .i64 a.x)).cell? ⟨w.heap.size + 1, 0, none⟩ = some (.int .i64 a.x) := (hn.set 0 _).c 0 _ rfl
  have r1 : ((w1.setCell ⟨w.heap.size + 1, 0, none⟩ (.int .i64 a.x)).setCell ⟨w.heap.size + 1, 1, none⟩ (.int .i64 a.y)).cell? ⟨w.heap.size + 1, 1, none⟩ = some (.int .i64 a.y) := ((hn.set 0 _).set 1 _).c 1 _ rfl
  rw [HS.out]
  have HN := Lib.hid (And.intro hn hb0); clear hn hb0 hb1
  go_wp2_with fail
  refine bodyPost_ret (v := V a) (by simp [results, Tryz.results78, go_sem, r0, r1]) rfl ⟨rfl, ?_⟩
  exact (HN.out.2.setCell (p := ⟨w.heap.size + 1, 0, none⟩) (Nat.le_succ _) _).setCell (p := ⟨w.heap.size + 1, 1, none⟩) (Nat.le_succ _) _

theorem dt_sub0 (a b : P2) : dt a b = a.x * b.x + a.y * b.y := rfl

set_option maxHeartbeats 800000 in
theorem Dot_ok (a b : P2) (w : World) (ha : flatB a = true) (hb : flatB b = true) :
    Calls Tryz.prog 26 #[V a, V b] w fun e w' => e = .returned (.tuple #[.int .i64 (dt a b), .int .i64 0]) ∧ Below w.heap.size w w' := by
  have he : errOf [a, b] = 0 := err_ok (by simp [ha, hb])
  have hx := box2 w a b 23 23
  have hp := pts_new2 ((w.alloc (B2 a 23)).alloc (B2 b 23)) a b 23
  rw [size_alloc1, size_alloc1] at hp
  have HX := Lib.hid (And.intro hx hp); clear hx hp
  have HE := Lib.hid he; clear he
  have HA := Lib.hid (And.intro (bd_flat ha) (bd_flat hb)); clear ha hb
  go_enter Tryz.func26, Tryz.ntmps26
  go_wp2_with fail
  refine (allP_is [a, b] 0 HE.out _ 0 _ 2 rfl _ HX.out.2 (by simp)).mono ?_
  rintro e w1 ⟨rfl, hb1⟩
  have hb0 := below_trans (below_trans (below2 w _ _) (alloc_below _ _)) hb1
  have h1 := (HX.out.1.1.to (alloc_below _ _)).to hb1
  have h2 := (HX.out.1.2.to (alloc_below _ _)).to hb1
  clear HX hb1
  have k1 := cell_regrown h1.1
  have k2 := cell_regrown h1.2
  have k3 := cell_regrown h2.1
  have k4 := cell_regrown h2.2
  have q1 : ∀ d os, Calls Tryz.prog 78 #[V a] (grow (redrawn w1 d) os) fun e w'' => e = .returned (V a) ∧ ∃ p : Regrown, w'' = grow (redrawn w1 p.d) p.os := fun d os => Calls.regrown_of (toward_calls a _ (HA.out.1.mono (by omega)))
  have q2 : ∀ d os, Calls Tryz.prog 78 #[V b] (grow (redrawn w1 d) os) fun e w'' => e = .returned (V b) ∧ ∃ p : Regrown, w'' = grow (redrawn w1 p.d) p.os := fun d os => Calls.regrown_of (toward_calls b _ (HA.out.2.mono (by omega)))
  have q3 : ∀ d os, Calls Tryz.prog 57 #[V a, V b] (grow (redrawn w1 d) os) fun e w'' => e = .returned (.int .i64 (dt a b)) ∧ ∃ p : Regrown, w'' = grow (redrawn w1 p.d) p.os := fun d os => Calls.regrown_of (dot_calls _ _ _ (HA.out.1.mono (by omega)) (HA.out.2.mono (by omega)))
  clear h1 h2
  go_wp2_with fail
  refine wp_region_quiet_below follows (by kernel_rfl) ?_
  repeat (quiet_step (first | with_reducible exact q1 _ _ | with_reducible exact q2 _ _ | with_reducible exact q3 _ _))
  refine wpQuiet_nil ?_
  intro _ hw'
  obtain ⟨⟨dq, osq⟩, hw''⟩ := hw'
  subst hw''
  go_wp2_with fail
  go_ret2
  exact ⟨rfl, below_trans hb0 (below_regrown w1 dq osq)⟩

set_option maxHeartbeats 800000 in
theorem Dot_err (a b : P2) (w : World) (he : errOf [a, b] = 2) :
    Calls Tryz.prog 26 #[V a, V b] w fun e w' => e = .returned (.tuple #[.int .i64 0, .int .i64 2]) ∧ Below w.heap.size w w' := by
  have hp := pts_new2 ((w.alloc (B2 a 23)).alloc (B2 b 23)) a b 23
  rw [size_alloc1, size_alloc1] at hp
  have HX := Lib.hid hp; clear hp
  have HE := Lib.hid he; clear he
  go_enter Tryz.func26, Tryz.ntmps26
  go_wp2_with fail
  refine (allP_is [a, b] 2 HE.out _ 0 _ 2 rfl _ HX.out (by simp)).mono ?_
  rintro e w1 ⟨rfl, hb1⟩
  have hb0 := below_trans (below_trans (below2 w _ _) (alloc_below _ _)) hb1
  clear HX hb1
  go_wp2_with fail
  go_ret2
  exact ⟨rfl, hb0⟩

end Go.Proofs.YtgdlfjofefhdoaaGreatDoor

namespace Go.Proofs.YtgdlfjofefhdoaaGreatDoor
open Go.RowKit

theorem eqFields_one {P : Program} {d : Nat} {xs ys : Array Value} {f : Field} {fs : List Field} {a b : Value} {r s : Bool} {w : World} (hn : f.name ≠ "_")
    (ha : (part f.type xs f.offset).run P w = .ok a w) (hb : (part f.type ys f.offset).run P w = .ok b w) (he : (Op.equalIn d f.type a b).run P w = .ok r w) (hr : (Op.eqFields d xs ys fs).run P w = .ok s w) :
    (Op.eqFields d xs ys (f :: fs)).run P w = .ok (r && s) w := by
  rw [Op.eqFields]
  simp only [if_pos hn, Sem.run_bind, ha, hb, he, Result.andThen_ok]
  cases r
  · simp
  · simpa using hr

theorem eqStruct {P : Program} {d : Nat} {t : TypeId} {fs : Array Field} {xs ys : Array Value} {r : Bool} {w : World} (hu : P.underlying t = some (.struct fs)) (hp : P.stoodInHeld t = false)
    (h : (Op.eqFields d xs ys fs.toList).run P w = .ok r w) : (Op.equalIn (d + 1) t (.agg xs) (.agg ys)).run P w = .ok r w := by
  have hf : P.fieldsOf t = fs := by simp [Program.fieldsOf, hu]
  rw [run_equalIn_struct (P := P) w d t xs ys (by rw [hf]; exact hu) hp, hf]
  exact h

theorem eqFields_none {P : Program} {d : Nat} {xs ys : Array Value} {w : World} : (Op.eqFields d xs ys []).run P w = .ok true w := by simp [Op.eqFields]

theorem eqPoint (d : Nat) (w : World) (a b x y : Int) : (Op.equalIn (d + 2) 23 (.agg #[.int .i64 a, .int .i64 b]) (.agg #[.int .i64 x, .int .i64 y])).run Tryz.prog w = .ok (a == x && b == y) w := by
  refine eqStruct Tryz.underlying23 (by kernel_rfl) ?_
  rw [← Bool.and_true (b == y)]
  refine eqFields_one (by decide) (by go_simp; rfl) (by go_simp; rfl) (by go_simp) ?_
  exact eqFields_one (by decide) (by go_simp; rfl) (by go_simp; rfl) (by go_simp) eqFields_none

end Go.Proofs.YtgdlfjofefhdoaaGreatDoor

namespace Go.Proofs.YtgdlfjofefhdoaaGreatDoor
open Go.RowKit Go.Sort Go.Lib Mb

/-- what 'squared' asks of the integers' operations -/
structure SqOps (n d : Int) : Prop where
  mul : ∀ w, Good w → Calls Tryz.prog 73 #[S n, S n] w fun e w' => e = .returned (.tuple #[S (n * n), .int .i64 0]) ∧ Below w.heap.size w w'
  low : LowOps (n * n) d
  l1 : (dg (n * n)).length ≤ 1024
  l2 : (dg d).length ≤ 1024
  bn : -9223372036854775808 ≤ n ∧ n ≤ 9223372036854775807

/-- a square divided by a number, as a text -/
abbrev Q (n d : Int) : Value := R (rn (n * n) d) (rd (n * n) d)

theorem sqOps_short {n d : Int} (hn : -31000 ≤ n ∧ n ≤ 31000) (hd : 0 < d) (hd9 : d < 1000000000) : SqOps n d := by
  have hm := Mb.mul_bd (A := 31000) (C := 31000) hn hn
  have h0 : 0 ≤ n * n := by
    rcases Int.le_total 0 n with h | h
    · exact Int.mul_nonneg h h
    · exact Int.mul_nonneg_of_nonpos_of_nonpos h h
  have l1 := itoa_le (n := n * n) (k := 9) (by omega) h0 (by omega)
  have l2 := itoa_le (n := d) (k := 9) (by omega) (by omega) (by omega)
  have ln : (itoa n).length ≤ 9 := by
    by_cases h : n < 0
    · rw [itoa_neg h, List.length_cons]
      have := (decDigits_len_le (u := n.natAbs) (k := 5) (by omega)).2 (by omega)
      omega
    · exact itoa_le (by omega) (by omega) (by omega)
  exact ⟨fun w hg => mul_short n n w hg ln ln, lowOps_short _ _ h0 (by omega) hd hd9, by have := dg_le_itoa (n * n); omega, by have := dg_le_itoa d; omega, by omega⟩

set_option maxHeartbeats 400000 in
theorem squared_calls (n d : Int) (w : World) (hg : Good w) (ho : SqOps n d) :
    Calls Tryz.prog 54 #[.int .i64 n, S d] w fun e w' => e = .returned (.tuple #[Q n d, .int .i64 0]) ∧ Below w.heap.size w w' := by
  go_enter Tryz.func54, Tryz.ntmps54
  go_wp2_with fail
  refine (of_calls n _ hg ho.bn.1 ho.bn.2).mono ?_
  rintro e w1 ⟨rfl, hb1⟩
  go_wp2_with fail
  refine (ho.mul _ (hg.to hb1)).mono ?_
  rintro e w2 ⟨rfl, hb2⟩
  go_wp2_with fail
  refine (make_calls _ _ _ (hg.to (below_trans hb1 hb2)) ho.low ho.l1 ho.l2).mono ?_
  rintro e w3 ⟨rfl, hb3⟩
  go_wp2_with fail
  go_ret2
  exact ⟨rfl, below_trans (below_trans hb1 hb2) hb3⟩

theorem far_def (a p : P2) : dt (sub p a) (sub p a) = far a p := rfl
theorem far_small {a p : P2} (ha : Bd 100000 a) (hp : Bd 100000 p) : 0 ≤ far a p ∧ far a p ≤ 80000000000 := by
  obtain ⟨⟨_, _⟩, _, _⟩ := ha; obtain ⟨⟨_, _⟩, _, _⟩ := hp
  have h1 := Mb.mul_bd (A := 200000) (C := 200000) (a := p.x - a.x) (b := p.x - a.x) (by omega) (by omega)
  have h2 := Mb.mul_bd (A := 200000) (C := 200000) (a := p.y - a.y) (b := p.y - a.y) (by omega) (by omega)
  have sq : ∀ t : Int, 0 ≤ t * t := fun t => by
    rcases Int.le_total 0 t with h | h
    · exact Int.mul_nonneg h h
    · exact Int.mul_nonneg_of_nonpos_of_nonpos h h
  have := sq (p.x - a.x); have := sq (p.y - a.y)
  unfold far; omega

set_option maxHeartbeats 1600000 in
theorem ToLine_ok (p a b : P2) (w : World) (hg : Good w) (hp : flatB p = true) (ha : flatB a = true) (hb : flatB b = true) (hab : a ≠ b) (ho : SqOps (crs a b p) (far a b)) :
    Calls Tryz.prog 11 #[V p, V a, V b] w fun e w' => e = .returned (.tuple #[Q (crs a b p) (far a b), .int .i64 0]) ∧ Below w.heap.size w w' := by
  have hbe : (a.x == b.x && a.y == b.y) = false := by
    rw [Bool.and_eq_false_iff, beq_eq_false_iff_ne, beq_eq_false_iff_ne]
    by_cases h : a.x = b.x
    · right; intro h2; apply hab; obtain ⟨_, _⟩ := a; obtain ⟨_, _⟩ := b; simp_all
    · left; exact h
  clear hab
  have heq := fun w => eqPoint 9998 w a.x a.y b.x b.y
  rw [hbe] at heq
  simp only [Nat.reduceAdd] at heq
  have he : errOf [p, a, b] = 0 := err_ok (by simp [ha, hb, hp])
  have hx := box3 w p a b 23 23 23
  have hpt := pts_new3 (((w.alloc (B2 p 23)).alloc (B2 a 23)).alloc (B2 b 23)) p a b 23
  rw [size_alloc1, size_alloc1, size_alloc1] at hpt
  have HX := Lib.hid (And.intro hx hpt); clear hx hpt
  have HE := Lib.hid he; clear he
  have HF := Lib.hid (far_small (bd_flat ha) (bd_flat hb))
  have HA := Lib.hid (And.intro (bd_flat hp) (And.intro (bd_flat ha) (bd_flat hb))); clear ha hb hp
  go_enter Tryz.func11, Tryz.ntmps11
  go_wp2_with fail
  refine (allP_is [p, a, b] 0 HE.out _ 0 _ 3 rfl _ HX.out.2 (by simp)).mono ?_
  rintro e w1 ⟨rfl, hb1⟩
  have hb0 := below_trans (below_trans (below3 w _ _ _) (alloc_below _ _)) hb1
  have h1 := (HX.out.1.1.to (alloc_below _ _)).to hb1
  have h2 := (HX.out.1.2.1.to (alloc_below _ _)).to hb1
  have h3 := (HX.out.1.2.2.to (alloc_below _ _)).to hb1
  clear HX hb1
  have HH := Lib.hid (And.intro h1 (And.intro h2 h3))
  obtain ⟨k1, k2⟩ := h1
  obtain ⟨k3, k4⟩ := h2
  obtain ⟨k5, k6⟩ := h3
  go_wp2_with fail
  refine (to_calls a b _ (HA.out.2.1.mono (by omega)) (HA.out.2.2.mono (by omega))).mono ?_
  rintro e w2 ⟨rfl, hb2⟩
  clear heq hbe
  have hs := (HA.out.2.1.sub HA.out.2.2).mono (show (100000 : Int) + 100000 ≤ 1000000000 by omega)
  have HS := Lib.hid hs; clear hs
  go_wp2_with fail
  obtain ⟨W, hW⟩ : ∃ W, W = w2.alloc (.cells #[.int .i64 (sub b a).x, .int .i64 (sub b a).y] 91) := ⟨_, rfl⟩
  rw [← hW]
  have hbW : Below w1.heap.size w1 W := by rw [hW]; exact below_trans hb2 (alloc_below _ _)
  have hv : Bx W w2.heap.size (sub b a) := by rw [hW]; exact bx_new _ _ _
  have hgW : Good W := hg.to (below_trans hb0 hbW)
  have g1 := HH.out.1.to hbW
  have g2 := HH.out.2.1.to hbW
  have g3 := HH.out.2.2.to hbW
  clear k1 k2 k3 k4 k5 k6 hW
  have m1 := cell_regrown g1.1
  have m2 := cell_regrown g1.2
  have m3 := cell_regrown g2.1
  have m4 := cell_regrown g2.2
  have m5 := cell_regrown g3.1
  have m6 := cell_regrown g3.2
  have m7 := cell_regrown hv.1
  have m8 := cell_regrown hv.2
  have HO := Lib.hid (And.intro ho hgW)
  have q1 : ∀ d os, Calls Tryz.prog 55 #[V a, V b, V p] (grow (redrawn W d) os) fun e w'' => e = .returned (.int .i64 (crs a b p)) ∧ ∃ p : Regrown, w'' = grow (redrawn W p.d) p.os := fun d os => Calls.regrown_of (cross_calls a b p _ (HA.out.2.1.mono (by omega)) (HA.out.2.2.mono (by omega)) (HA.out.1.mono (by omega)))
  have q2 : ∀ d os, Calls Tryz.prog 57 #[V (sub b a), V (sub b a)] (grow (redrawn W d) os) fun e w'' => e = .returned (.int .i64 (far a b)) ∧ ∃ p : Regrown, w'' = grow (redrawn W p.d) p.os := fun d os => Calls.regrown_of (dot_calls _ _ _ HS.out HS.out)
  have q3 : ∀ d os, Calls Tryz.prog 56 #[.int .i64 (far a b)] (grow (redrawn W d) os) fun e w'' => e = .returned (S (far a b)) ∧ ∃ p : Regrown, w'' = grow (redrawn W p.d) p.os := fun d os => Calls.regrown_of (of_calls _ _ (HO.out.2.to (below_regrown W d os)) (by have := HF.out; omega) (by have := HF.out; omega))
  have q4 : ∀ d os, Calls Tryz.prog 54 #[.int .i64 (crs a b p), S (far a b)] (grow (redrawn W d) os) fun e w'' => e = .returned (.tuple #[Q (crs a b p) (far a b), .int .i64 0]) ∧ ∃ p : Regrown, w'' = grow (redrawn W p.d) p.os := fun d os => Calls.regrown_of (squared_calls _ _ _ (HO.out.2.to (below_regrown W d os)) HO.out.1)
  clear g1 g2 g3 hv hg ho hgW HH
  refine wp_region_quiet_below follows (by kernel_rfl) ?_
  repeat (quiet_step (first | with_reducible exact q1 _ _ | with_reducible exact q2 _ _ | with_reducible exact q3 _ _ | with_reducible exact q4 _ _))
  refine wpQuiet_nil ?_
  intro _ hw'
  obtain ⟨⟨dq, osq⟩, hw''⟩ := hw'
  subst hw''
  go_wp2_with fail
  go_ret2
  exact ⟨rfl, below_trans (below_trans hb0 hbW) (below_regrown W dq osq)⟩

theorem Bx.below {w w' : World} {b B : Nat} {p : P2} (h : Bx w b p) (hb : Below B w w') (hB : b < B) : Bx w' b p := ⟨(hb.cell (p := ⟨b, 0, none⟩) hB).trans h.1, (hb.cell (p := ⟨b, 1, none⟩) hB).trans h.2⟩
theorem Bx.lt {w : World} {b : Nat} {p : P2} (h : Bx w b p) : b < w.heap.size := World.block_lt_of_cell? _ _ h.1
set_option maxHeartbeats 3200000 in
/-- the foot lies behind b -/
theorem ToSegment_b (p a b : P2) (w : World) (hg : Good w) (hp : flatB p = true) (ha : flatB a = true) (hb : flatB b = true) (h1 : 0 < dt (sub b a) (sub p b)) (h2 : 0 < dt (sub b a) (sub p a)) :
    Calls Tryz.prog 13 #[V p, V a, V b] w fun e w' => e = .returned (.tuple #[S (far b p), .int .i64 0]) ∧ Below w.heap.size w w' := by
  have hd : decide (dt (sub b a) (sub p a) ≤ 0) = false := decide_eq_false (by omega)
  clear h2
  have hgt : 0 < dt (sub b a) (sub p b) := h1
  clear h1
  have he : errOf [p, a, b] = 0 := err_ok (by simp [ha, hb, hp])
  have hx := box3 w p a b 23 23 23
  have hpt := pts_new3 (((w.alloc (B2 p 23)).alloc (B2 a 23)).alloc (B2 b 23)) p a b 23
  rw [size_alloc1, size_alloc1, size_alloc1] at hpt
  have HX := Lib.hid (And.intro hx hpt); clear hx hpt
  have HE := Lib.hid he; clear he
  have HA := Lib.hid (And.intro (bd_flat hp) (And.intro (bd_flat ha) (bd_flat hb))); clear ha hb hp
  have HG := Lib.hid hg; clear hg
  go_enter Tryz.func13, Tryz.ntmps13
  go_wp2_with fail
  refine (allP_is [p, a, b] 0 HE.out _ 0 _ 3 rfl _ HX.out.2 (by simp)).mono ?_
  rintro e w1 ⟨rfl, hb1⟩
  have hb0 := below_trans (below_trans (below3 w _ _ _) (alloc_below _ _)) hb1
  have h1 := (HX.out.1.1.to (alloc_below _ _)).to hb1
  have h2 := (HX.out.1.2.1.to (alloc_below _ _)).to hb1
  have h3 := (HX.out.1.2.2.to (alloc_below _ _)).to hb1
  clear HX hb1
  have HH := Lib.hid (And.intro h1 (And.intro h2 h3))
  obtain ⟨k1, k2⟩ := h1
  obtain ⟨k3, k4⟩ := h2
  obtain ⟨k5, k6⟩ := h3
  go_wp2_with fail
  refine (to_calls a b _ (HA.out.2.1.mono (by omega)) (HA.out.2.2.mono (by omega))).mono ?_
  rintro e w2 ⟨rfl, hb2⟩
  have hs := (HA.out.2.1.sub HA.out.2.2).mono (show (100000 : Int) + 100000 ≤ 1000000000 by omega)
  have hs2 := (HA.out.2.1.sub HA.out.1).mono (show (100000 : Int) + 100000 ≤ 1000000000 by omega)
  have hs3 := (HA.out.2.2.sub HA.out.1).mono (show (100000 : Int) + 100000 ≤ 1000000000 by omega)
  have HS := Lib.hid (And.intro hs (And.intro hs2 hs3)); clear hs hs2 hs3
  have n3 := cell_to k3 hb2
  have n4 := cell_to k4 hb2
  have hz : w.heap.size + 1 < w2.heap.size := World.block_lt_of_cell? _ _ n3
  clear k1 k2 k3 k4 k5 k6
  go_wp2_with fail
  obtain ⟨W, hW⟩ : ∃ W, W = (w2.alloc (.cells #[.int .i64 (sub b a).x, .int .i64 (sub b a).y] 91)).alloc (.cells #[.int .i64 a.x, .int .i64 a.y] 23) := ⟨_, rfl⟩
  rw [← hW]
  have hbW : Below w1.heap.size w1 W := by rw [hW]; exact below_trans hb2 (below2 _ _ _)
  have hv := box2 w2 (sub b a) a 91 23
  rw [← hW] at hv
  have hnb := blk_new1 w2 (B2 (sub b a) 91) #[.int .i64 a.x, .int .i64 a.y] 23
  rw [← hW] at hnb
  have hsz : w1.heap.size ≤ w2.heap.size ∧ w.heap.size + 2 < w1.heap.size := ⟨hb2.size, HH.out.2.2.lt⟩
  have HB := Lib.hid (And.intro hnb hsz); clear hnb hsz
  clear hW hb2 n3 n4 hz
  have g1 := HH.out.1.to hbW
  have g2 := HH.out.2.1.to hbW
  have g3 := HH.out.2.2.to hbW
  clear HH
  have HV := Lib.hid (And.intro hv.1 (And.intro g1 (And.intro g2 g3)))
  have m1 := cell_regrown g1.1
  have m2 := cell_regrown g1.2
  have m5 := cell_regrown g3.1
  have m6 := cell_regrown g3.2
  have m7 := cell_regrown hv.1.1
  have m8 := cell_regrown hv.1.2
  have q1 : ∀ d os, Calls Tryz.prog 53 #[V b, V p] (grow (redrawn W d) os) fun e w'' => e = .returned (V (sub p b)) ∧ ∃ p : Regrown, w'' = grow (redrawn W p.d) p.os := fun d os => Calls.regrown_of (to_calls b p _ (HA.out.2.2.mono (by omega)) (HA.out.1.mono (by omega)))
  have q2 : ∀ d os, Calls Tryz.prog 57 #[V (sub b a), V (sub p b)] (grow (redrawn W d) os) fun e w'' => e = .returned (.int .i64 (dt (sub b a) (sub p b))) ∧ ∃ p : Regrown, w'' = grow (redrawn W p.d) p.os := fun d os => Calls.regrown_of (dot_calls _ _ _ HS.out.1 HS.out.2.2)
  clear g1 g2 g3 hv
  refine wp_region_quiet_below follows (by kernel_rfl) ?_
  repeat (quiet_step (first | with_reducible exact q1 _ _ | with_reducible exact q2 _ _))
  refine wpQuiet_nil ?_
  intro _ hw'
  obtain ⟨⟨dq, osq⟩, hw''⟩ := hw'
  subst hw''
  clear q1 q2 m1 m2 m5 m6 m7 m8
  obtain ⟨W1, hW1⟩ : ∃ W1, W1 = grow (redrawn W dq) osq := ⟨_, rfl⟩
  rw [← hW1]
  have hbW1 : Below W.heap.size W W1 := by rw [hW1]; exact below_regrown W dq osq
  clear hW1
  have hnb := HB.out.1.to hbW1
  have n0 : W1.cell? ⟨w2.heap.size + 1, 0, none⟩ = some (.int .i64 a.x) := hnb.c 0 _ rfl
  have n1 : W1.cell? ⟨w2.heap.size + 1, 1, none⟩ = some (.int .i64 a.y) := hnb.c 1 _ rfl
  have f0 := hnb.free 0
  have f1 := hnb.free 1
  have l3 := HV.out.2.2.2.to hbW1
  obtain ⟨l5, l6⟩ := l3
  have HN := Lib.hid hnb; clear hnb
  go_wp2_with fail
  clear n0 n1 f0 f1 l5 l6
  obtain ⟨W2, hW2⟩ : ∃ W2, W2 = (W1.setCell ⟨w2.heap.size + 1, 0, none⟩ (.int .i64 b.x)).setCell ⟨w2.heap.size + 1, 1, none⟩ (.int .i64 b.y) := ⟨_, rfl⟩
  rw [← hW2]
  have hn2 : Bx W2 (w2.heap.size + 1) b := by rw [hW2]; exact ⟨((HN.out.set 0 _).set 1 _).c 0 _ rfl, ((HN.out.set 0 _).set 1 _).c 1 _ rfl⟩
  have hbN : Below (w2.heap.size + 1) W W2 := by
    rw [hW2]
    exact ((hbW1.mono (Nat.le_of_lt HB.out.1.lt)).setCell (p := ⟨w2.heap.size + 1, 0, none⟩) (Nat.le_refl _) _).setCell (p := ⟨w2.heap.size + 1, 1, none⟩) (Nat.le_refl _) _
  clear hW2
  have hz1 := HB.out.2
  have hz2 := HV.out.1.lt
  have t1 := HV.out.1.below hbN (by omega)
  have t2 := HV.out.2.1.below hbN (by omega)
  have t3 := HV.out.2.2.1.below hbN (by omega)
  have t4 := HV.out.2.2.2.below hbN (by omega)
  have hb2 : Below w.heap.size w W2 := (below_trans hb0 hbW).trans (hbN.mono (by omega))
  have H2 := Lib.hid (And.intro hb2 (And.intro hn2 (And.intro t1 (And.intro t2 (And.intro t3 t4)))))
  clear hb2 hn2 t1 t2 t3 t4 hz1 hz2 hbN
  have v1 := cell_regrown H2.out.2.2.1.1
  have v2 := cell_regrown H2.out.2.2.1.2
  have v3 := cell_regrown H2.out.2.2.2.1.1
  have v4 := cell_regrown H2.out.2.2.2.1.2
  have v5 := cell_regrown H2.out.2.2.2.2.1.1
  have v6 := cell_regrown H2.out.2.2.2.2.1.2
  have v7 := cell_regrown H2.out.2.2.2.2.2.1
  have v8 := cell_regrown H2.out.2.2.2.2.2.2
  have v9 := cell_regrown H2.out.2.1.1
  have v10 := cell_regrown H2.out.2.1.2
  have q1 : ∀ d os, Calls Tryz.prog 53 #[V a, V p] (grow (redrawn W2 d) os) fun e w'' => e = .returned (V (sub p a)) ∧ ∃ p : Regrown, w'' = grow (redrawn W2 p.d) p.os := fun d os => Calls.regrown_of (to_calls a p _ (HA.out.2.1.mono (by omega)) (HA.out.1.mono (by omega)))
  have q2 : ∀ d os, Calls Tryz.prog 57 #[V (sub b a), V (sub p a)] (grow (redrawn W2 d) os) fun e w'' => e = .returned (.int .i64 (dt (sub b a) (sub p a))) ∧ ∃ p : Regrown, w'' = grow (redrawn W2 p.d) p.os := fun d os => Calls.regrown_of (dot_calls _ _ _ HS.out.1 HS.out.2.1)
  refine wp_region_quiet_below follows (by kernel_rfl) ?_
  repeat (quiet_step (first | with_reducible exact q1 _ _ | with_reducible exact q2 _ _))
  refine wpQuiet_nil ?_
  intro _ hw'
  obtain ⟨⟨dq, osq⟩, hw''⟩ := hw'
  subst hw''
  clear q1 q2 v1 v2 v3 v4 v5 v6 v7 v8 v9 v10
  obtain ⟨W3, hW3⟩ : ∃ W3, W3 = grow (redrawn W2 dq) osq := ⟨_, rfl⟩
  rw [← hW3]
  have hbW3 : Below W2.heap.size W2 W3 := by rw [hW3]; exact below_regrown W2 dq osq
  clear hW3
  have r1 := H2.out.2.1.to hbW3
  have r2 := H2.out.2.2.2.1.to hbW3
  have hb03 := below_trans H2.out.1 hbW3
  have hg3 : Good W3 := HG.out.to hb03
  obtain ⟨u1, u2⟩ := r1
  obtain ⟨u3, u4⟩ := r2
  have HB3 := Lib.hid hb03; clear hb03
  clear hbW3 H2
  go_wp2_with fail
  refine (to_calls b p _ (HA.out.2.2.mono (by omega)) (HA.out.1.mono (by omega))).mono ?_
  rintro e w4 ⟨rfl, hb4⟩
  clear u1 u2 u3 u4
  go_wp2_with fail
  refine (dot_calls _ _ _ HS.out.2.2 HS.out.2.2).mono ?_
  rintro e w5 ⟨rfl, hb5⟩
  have hb6 := below_trans (below_trans hb4 (alloc_below _ _)) hb5
  rw [far_def]
  have hf := far_small HA.out.2.2 HA.out.1
  go_wp2_with fail
  refine (whole_calls _ _ (hg3.to hb6) (by omega) (by omega)).mono ?_
  rintro e w7 ⟨rfl, hb7⟩
  go_wp2_with fail
  go_ret2
  exact ⟨rfl, below_trans (below_trans HB3.out hb6) hb7⟩

set_option maxHeartbeats 3200000 in
/-- the foot lies before a -/
theorem ToSegment_a (p a b : P2) (w : World) (hg : Good w) (hp : flatB p = true) (ha : flatB a = true) (hb : flatB b = true) (h1 : dt (sub b a) (sub p b) ≤ 0) (h2 : dt (sub b a) (sub p a) ≤ 0) :
    Calls Tryz.prog 13 #[V p, V a, V b] w fun e w' => e = .returned (.tuple #[S (far a p), .int .i64 0]) ∧ Below w.heap.size w w' := by
  have hd : decide (dt (sub b a) (sub p a) ≤ 0) = true := decide_eq_true (by omega)
  clear h2
  have hgt : dt (sub b a) (sub p b) ≤ 0 := h1
  clear h1
  have he : errOf [p, a, b] = 0 := err_ok (by simp [ha, hb, hp])
  have hx := box3 w p a b 23 23 23
  have hpt := pts_new3 (((w.alloc (B2 p 23)).alloc (B2 a 23)).alloc (B2 b 23)) p a b 23
  rw [size_alloc1, size_alloc1, size_alloc1] at hpt
  have HX := Lib.hid (And.intro hx hpt); clear hx hpt
  have HE := Lib.hid he; clear he
  have HA := Lib.hid (And.intro (bd_flat hp) (And.intro (bd_flat ha) (bd_flat hb))); clear ha hb hp
  have HG := Lib.hid hg; clear hg
  go_enter Tryz.func13, Tryz.ntmps13
  go_wp2_with fail
  refine (allP_is [p, a, b] 0 HE.out _ 0 _ 3 rfl _ HX.out.2 (by simp)).mono ?_
  rintro e w1 ⟨rfl, hb1⟩
  have hb0 := below_trans (below_trans (below3 w _ _ _) (alloc_below _ _)) hb1
  have h1 := (HX.out.1.1.to (alloc_below _ _)).to hb1
  have h2 := (HX.out.1.2.1.to (alloc_below _ _)).to hb1
  have h3 := (HX.out.1.2.2.to (alloc_below _ _)).to hb1
  clear HX hb1
  have HH := Lib.hid (And.intro h1 (And.intro h2 h3))
  obtain ⟨k1, k2⟩ := h1
  obtain ⟨k3, k4⟩ := h2
  obtain ⟨k5, k6⟩ := h3
  go_wp2_with fail
  refine (to_calls a b _ (HA.out.2.1.mono (by omega)) (HA.out.2.2.mono (by omega))).mono ?_
  rintro e w2 ⟨rfl, hb2⟩
  have hs := (HA.out.2.1.sub HA.out.2.2).mono (show (100000 : Int) + 100000 ≤ 1000000000 by omega)
  have hs2 := (HA.out.2.1.sub HA.out.1).mono (show (100000 : Int) + 100000 ≤ 1000000000 by omega)
  have hs3 := (HA.out.2.2.sub HA.out.1).mono (show (100000 : Int) + 100000 ≤ 1000000000 by omega)
  have HS := Lib.hid (And.intro hs (And.intro hs2 hs3)); clear hs hs2 hs3
  have n3 := cell_to k3 hb2
  have n4 := cell_to k4 hb2
  have hz : w.heap.size + 1 < w2.heap.size := World.block_lt_of_cell? _ _ n3
  clear k1 k2 k3 k4 k5 k6
  go_wp2_with fail
  obtain ⟨W, hW⟩ : ∃ W, W = (w2.alloc (.cells #[.int .i64 (sub b a).x, .int .i64 (sub b a).y] 91)).alloc (.cells #[.int .i64 a.x, .int .i64 a.y] 23) := ⟨_, rfl⟩
  rw [← hW]
  have hbW : Below w1.heap.size w1 W := by rw [hW]; exact below_trans hb2 (below2 _ _ _)
  have hv := box2 w2 (sub b a) a 91 23
  rw [← hW] at hv
  have hnb := blk_new1 w2 (B2 (sub b a) 91) #[.int .i64 a.x, .int .i64 a.y] 23
  rw [← hW] at hnb
  have hsz : w1.heap.size ≤ w2.heap.size ∧ w.heap.size + 2 < w1.heap.size := ⟨hb2.size, HH.out.2.2.lt⟩
  have HB := Lib.hid (And.intro hnb hsz); clear hnb hsz
  clear hW hb2 n3 n4 hz
  have g1 := HH.out.1.to hbW
  have g2 := HH.out.2.1.to hbW
  have g3 := HH.out.2.2.to hbW
  clear HH
  have HV := Lib.hid (And.intro hv.1 (And.intro g1 (And.intro g2 g3)))
  have m1 := cell_regrown g1.1
  have m2 := cell_regrown g1.2
  have m5 := cell_regrown g3.1
  have m6 := cell_regrown g3.2
  have m7 := cell_regrown hv.1.1
  have m8 := cell_regrown hv.1.2
  have q1 : ∀ d os, Calls Tryz.prog 53 #[V b, V p] (grow (redrawn W d) os) fun e w'' => e = .returned (V (sub p b)) ∧ ∃ p : Regrown, w'' = grow (redrawn W p.d) p.os := fun d os => Calls.regrown_of (to_calls b p _ (HA.out.2.2.mono (by omega)) (HA.out.1.mono (by omega)))
  have q2 : ∀ d os, Calls Tryz.prog 57 #[V (sub b a), V (sub p b)] (grow (redrawn W d) os) fun e w'' => e = .returned (.int .i64 (dt (sub b a) (sub p b))) ∧ ∃ p : Regrown, w'' = grow (redrawn W p.d) p.os := fun d os => Calls.regrown_of (dot_calls _ _ _ HS.out.1 HS.out.2.2)
  clear g1 g2 g3 hv
  refine wp_region_quiet_below follows (by kernel_rfl) ?_
  repeat (quiet_step (first | with_reducible exact q1 _ _ | with_reducible exact q2 _ _))
  refine wpQuiet_nil ?_
  intro _ hw'
  obtain ⟨⟨dq, osq⟩, hw''⟩ := hw'
  subst hw''
  clear q1 q2 m1 m2 m5 m6 m7 m8
  obtain ⟨W1, hW1⟩ : ∃ W1, W1 = grow (redrawn W dq) osq := ⟨_, rfl⟩
  rw [← hW1]
  have hbW1 : Below W.heap.size W W1 := by rw [hW1]; exact below_regrown W dq osq
  clear hW1
  have hnb := HB.out.1.to hbW1
  go_wp2_with fail
  obtain ⟨W2, hW2⟩ : ∃ W2, W2 = W1 := ⟨_, rfl⟩
  rw [← hW2]
  have hn2 : Bx W2 (w2.heap.size + 1) a := by rw [hW2]; exact ⟨hnb.c 0 _ rfl, hnb.c 1 _ rfl⟩
  have hbN : Below W.heap.size W W2 := by rw [hW2]; exact hbW1
  clear hW2 hnb
  have hz1 := HB.out.2
  have hz2 := HV.out.1.lt
  have t1 := HV.out.1.below hbN (by have := HB.out.1.lt; omega)
  have t2 := HV.out.2.1.below hbN (by have := HB.out.1.lt; omega)
  have t3 := HV.out.2.2.1.below hbN (by have := HB.out.1.lt; omega)
  have t4 := HV.out.2.2.2.below hbN (by have := HB.out.1.lt; omega)
  have hb2 : Below w.heap.size w W2 := (below_trans hb0 hbW).trans (hbN.mono (by have := (below_trans hb0 hbW).size; omega))
  have H2 := Lib.hid (And.intro hb2 (And.intro hn2 (And.intro t1 (And.intro t2 (And.intro t3 t4)))))
  clear hb2 hn2 t1 t2 t3 t4 hz1 hz2 hbN
  have v1 := cell_regrown H2.out.2.2.1.1
  have v2 := cell_regrown H2.out.2.2.1.2
  have v3 := cell_regrown H2.out.2.2.2.1.1
  have v4 := cell_regrown H2.out.2.2.2.1.2
  have v5 := cell_regrown H2.out.2.2.2.2.1.1
  have v6 := cell_regrown H2.out.2.2.2.2.1.2
  have v7 := cell_regrown H2.out.2.2.2.2.2.1
  have v8 := cell_regrown H2.out.2.2.2.2.2.2
  have v9 := cell_regrown H2.out.2.1.1
  have v10 := cell_regrown H2.out.2.1.2
  have q1 : ∀ d os, Calls Tryz.prog 53 #[V a, V p] (grow (redrawn W2 d) os) fun e w'' => e = .returned (V (sub p a)) ∧ ∃ p : Regrown, w'' = grow (redrawn W2 p.d) p.os := fun d os => Calls.regrown_of (to_calls a p _ (HA.out.2.1.mono (by omega)) (HA.out.1.mono (by omega)))
  have q2 : ∀ d os, Calls Tryz.prog 57 #[V (sub b a), V (sub p a)] (grow (redrawn W2 d) os) fun e w'' => e = .returned (.int .i64 (dt (sub b a) (sub p a))) ∧ ∃ p : Regrown, w'' = grow (redrawn W2 p.d) p.os := fun d os => Calls.regrown_of (dot_calls _ _ _ HS.out.1 HS.out.2.1)
  refine wp_region_quiet_below follows (by kernel_rfl) ?_
  repeat (quiet_step (first | with_reducible exact q1 _ _ | with_reducible exact q2 _ _))
  refine wpQuiet_nil ?_
  intro _ hw'
  obtain ⟨⟨dq, osq⟩, hw''⟩ := hw'
  subst hw''
  clear q1 q2 v1 v2 v3 v4 v5 v6 v7 v8 v9 v10
  obtain ⟨W3, hW3⟩ : ∃ W3, W3 = grow (redrawn W2 dq) osq := ⟨_, rfl⟩
  rw [← hW3]
  have hbW3 : Below W2.heap.size W2 W3 := by rw [hW3]; exact below_regrown W2 dq osq
  clear hW3
  have r1 := H2.out.2.1.to hbW3
  have r2 := H2.out.2.2.2.1.to hbW3
  have hb03 := below_trans H2.out.1 hbW3
  have hg3 : Good W3 := HG.out.to hb03
  obtain ⟨u1, u2⟩ := r1
  obtain ⟨u3, u4⟩ := r2
  have HB3 := Lib.hid hb03; clear hb03
  clear hbW3 H2
  go_wp2_with fail
  refine (to_calls a p _ (HA.out.2.1.mono (by omega)) (HA.out.1.mono (by omega))).mono ?_
  rintro e w4 ⟨rfl, hb4⟩
  clear u1 u2 u3 u4
  go_wp2_with fail
  refine (dot_calls _ _ _ HS.out.2.1 HS.out.2.1).mono ?_
  rintro e w5 ⟨rfl, hb5⟩
  have hb6 := below_trans (below_trans hb4 (alloc_below _ _)) hb5
  rw [far_def]
  have hf := far_small HA.out.2.1 HA.out.1
  go_wp2_with fail
  refine (whole_calls _ _ (hg3.to hb6) (by omega) (by omega)).mono ?_
  rintro e w7 ⟨rfl, hb7⟩
  go_wp2_with fail
  go_ret2
  exact ⟨rfl, below_trans (below_trans HB3.out hb6) hb7⟩

set_option maxHeartbeats 3200000 in
/-- the foot lies between -/
theorem ToSegment_l (p a b : P2) (w : World) (hg : Good w) (hp : flatB p = true) (ha : flatB a = true) (hb : flatB b = true) (h1 : dt (sub b a) (sub p b) ≤ 0) (h2 : 0 < dt (sub b a) (sub p a)) (hab : a ≠ b) (ho : SqOps (crs a b p) (far a b)) :
    Calls Tryz.prog 13 #[V p, V a, V b] w fun e w' => e = .returned (.tuple #[Q (crs a b p) (far a b), .int .i64 0]) ∧ Below w.heap.size w w' := by
  have hd : decide (dt (sub b a) (sub p a) ≤ 0) = false := decide_eq_false (by omega)
  clear h2
  have hgt : dt (sub b a) (sub p b) ≤ 0 := h1
  clear h1
  have hbe : (a.x == b.x && a.y == b.y) = false := by
    rw [Bool.and_eq_false_iff, beq_eq_false_iff_ne, beq_eq_false_iff_ne]
    by_cases h : a.x = b.x
    · right; intro h2; apply hab; obtain ⟨_, _⟩ := a; obtain ⟨_, _⟩ := b; simp_all
    · left; exact h
  have heq := fun w => eqPoint 9998 w a.x a.y b.x b.y
  rw [hbe] at heq
  simp only [Nat.reduceAdd] at heq
  have HT := Lib.hid (And.intro hp (And.intro ha (And.intro hb (And.intro hab ho))))
  clear hab ho hbe
  have he : errOf [p, a, b] = 0 := err_ok (by simp [ha, hb, hp])
  have hx := box3 w p a b 23 23 23
  have hpt := pts_new3 (((w.alloc (B2 p 23)).alloc (B2 a 23)).alloc (B2 b 23)) p a b 23
  rw [size_alloc1, size_alloc1, size_alloc1] at hpt
  have HX := Lib.hid (And.intro hx hpt); clear hx hpt
  have HE := Lib.hid he; clear he
  have HA := Lib.hid (And.intro (bd_flat hp) (And.intro (bd_flat ha) (bd_flat hb))); clear ha hb hp
  have HG := Lib.hid hg; clear hg
  go_enter Tryz.func13, Tryz.ntmps13
  go_wp2_with fail
  refine (allP_is [p, a, b] 0 HE.out _ 0 _ 3 rfl _ HX.out.2 (by simp)).mono ?_
  rintro e w1 ⟨rfl, hb1⟩
  have hb0 := below_trans (below_trans (below3 w _ _ _) (alloc_below _ _)) hb1
  have h1 := (HX.out.1.1.to (alloc_below _ _)).to hb1
  have h2 := (HX.out.1.2.1.to (alloc_below _ _)).to hb1
  have h3 := (HX.out.1.2.2.to (alloc_below _ _)).to hb1
  clear HX hb1
  have HH := Lib.hid (And.intro h1 (And.intro h2 h3))
  obtain ⟨k1, k2⟩ := h1
  obtain ⟨k3, k4⟩ := h2
  obtain ⟨k5, k6⟩ := h3
  go_wp2_with fail
  refine (to_calls a b _ (HA.out.2.1.mono (by omega)) (HA.out.2.2.mono (by omega))).mono ?_
  rintro e w2 ⟨rfl, hb2⟩
  have hs := (HA.out.2.1.sub HA.out.2.2).mono (show (100000 : Int) + 100000 ≤ 1000000000 by omega)
  have hs2 := (HA.out.2.1.sub HA.out.1).mono (show (100000 : Int) + 100000 ≤ 1000000000 by omega)
  have hs3 := (HA.out.2.2.sub HA.out.1).mono (show (100000 : Int) + 100000 ≤ 1000000000 by omega)
  have HS := Lib.hid (And.intro hs (And.intro hs2 hs3)); clear hs hs2 hs3
  have n3 := cell_to k3 hb2
  have n4 := cell_to k4 hb2
  have hz : w.heap.size + 1 < w2.heap.size := World.block_lt_of_cell? _ _ n3
  clear k1 k2 k3 k4 k5 k6
  go_wp2_with fail
  obtain ⟨W, hW⟩ : ∃ W, W = (w2.alloc (.cells #[.int .i64 (sub b a).x, .int .i64 (sub b a).y] 91)).alloc (.cells #[.int .i64 a.x, .int .i64 a.y] 23) := ⟨_, rfl⟩
  rw [← hW]
  have hbW : Below w1.heap.size w1 W := by rw [hW]; exact below_trans hb2 (below2 _ _ _)
  have hv := box2 w2 (sub b a) a 91 23
  rw [← hW] at hv
  have hnb := blk_new1 w2 (B2 (sub b a) 91) #[.int .i64 a.x, .int .i64 a.y] 23
  rw [← hW] at hnb
  have hsz : w1.heap.size ≤ w2.heap.size ∧ w.heap.size + 2 < w1.heap.size := ⟨hb2.size, HH.out.2.2.lt⟩
  have HB := Lib.hid (And.intro hnb hsz); clear hnb hsz
  clear hW hb2 n3 n4 hz
  have g1 := HH.out.1.to hbW
  have g2 := HH.out.2.1.to hbW
  have g3 := HH.out.2.2.to hbW
  clear HH
  have HV := Lib.hid (And.intro hv.1 (And.intro g1 (And.intro g2 g3)))
  have m1 := cell_regrown g1.1
  have m2 := cell_regrown g1.2
  have m5 := cell_regrown g3.1
  have m6 := cell_regrown g3.2
  have m7 := cell_regrown hv.1.1
  have m8 := cell_regrown hv.1.2
  have q1 : ∀ d os, Calls Tryz.prog 53 #[V b, V p] (grow (redrawn W d) os) fun e w'' => e = .returned (V (sub p b)) ∧ ∃ p : Regrown, w'' = grow (redrawn W p.d) p.os := fun d os => Calls.regrown_of (to_calls b p _ (HA.out.2.2.mono (by omega)) (HA.out.1.mono (by omega)))
  have q2 : ∀ d os, Calls Tryz.prog 57 #[V (sub b a), V (sub p b)] (grow (redrawn W d) os) fun e w'' => e = .returned (.int .i64 (dt (sub b a) (sub p b))) ∧ ∃ p : Regrown, w'' = grow (redrawn W p.d) p.os := fun d os => Calls.regrown_of (dot_calls _ _ _ HS.out.1 HS.out.2.2)
  clear g1 g2 g3 hv
  refine wp_region_quiet_below follows (by kernel_rfl) ?_
  repeat (quiet_step (first | with_reducible exact q1 _ _ | with_reducible exact q2 _ _))
  refine wpQuiet_nil ?_
  intro _ hw'
  obtain ⟨⟨dq, osq⟩, hw''⟩ := hw'
  subst hw''
  clear q1 q2 m1 m2 m5 m6 m7 m8
  obtain ⟨W1, hW1⟩ : ∃ W1, W1 = grow (redrawn W dq) osq := ⟨_, rfl⟩
  rw [← hW1]
  have hbW1 : Below W.heap.size W W1 := by rw [hW1]; exact below_regrown W dq osq
  clear hW1
  have hnb := HB.out.1.to hbW1
  go_wp2_with fail
  obtain ⟨W2, hW2⟩ : ∃ W2, W2 = W1 := ⟨_, rfl⟩
  rw [← hW2]
  have hn2 : Bx W2 (w2.heap.size + 1) a := by rw [hW2]; exact ⟨hnb.c 0 _ rfl, hnb.c 1 _ rfl⟩
  have hbN : Below W.heap.size W W2 := by rw [hW2]; exact hbW1
  clear hW2 hnb
  have hz1 := HB.out.2
  have hz2 := HV.out.1.lt
  have t1 := HV.out.1.below hbN (by have := HB.out.1.lt; omega)
  have t2 := HV.out.2.1.below hbN (by have := HB.out.1.lt; omega)
  have t3 := HV.out.2.2.1.below hbN (by have := HB.out.1.lt; omega)
  have t4 := HV.out.2.2.2.below hbN (by have := HB.out.1.lt; omega)
  have hb2 : Below w.heap.size w W2 := (below_trans hb0 hbW).trans (hbN.mono (by have := (below_trans hb0 hbW).size; omega))
  have H2 := Lib.hid (And.intro hb2 (And.intro hn2 (And.intro t1 (And.intro t2 (And.intro t3 t4)))))
  clear hb2 hn2 t1 t2 t3 t4 hz1 hz2 hbN
  have v1 := cell_regrown H2.out.2.2.1.1
  have v2 := cell_regrown H2.out.2.2.1.2
  have v3 := cell_regrown H2.out.2.2.2.1.1
  have v4 := cell_regrown H2.out.2.2.2.1.2
  have v5 := cell_regrown H2.out.2.2.2.2.1.1
  have v6 := cell_regrown H2.out.2.2.2.2.1.2
  have v7 := cell_regrown H2.out.2.2.2.2.2.1
  have v8 := cell_regrown H2.out.2.2.2.2.2.2
  have v9 := cell_regrown H2.out.2.1.1
  have v10 := cell_regrown H2.out.2.1.2
  have q1 : ∀ d os, Calls Tryz.prog 53 #[V a, V p] (grow (redrawn W2 d) os) fun e w'' => e = .returned (V (sub p a)) ∧ ∃ p : Regrown, w'' = grow (redrawn W2 p.d) p.os := fun d os => Calls.regrown_of (to_calls a p _ (HA.out.2.1.mono (by omega)) (HA.out.1.mono (by omega)))
  have q2 : ∀ d os, Calls Tryz.prog 57 #[V (sub b a), V (sub p a)] (grow (redrawn W2 d) os) fun e w'' => e = .returned (.int .i64 (dt (sub b a) (sub p a))) ∧ ∃ p : Regrown, w'' = grow (redrawn W2 p.d) p.os := fun d os => Calls.regrown_of (dot_calls _ _ _ HS.out.1 HS.out.2.1)
  refine wp_region_quiet_below follows (by kernel_rfl) ?_
  repeat (quiet_step (first | with_reducible exact q1 _ _ | with_reducible exact q2 _ _))
  refine wpQuiet_nil ?_
  intro _ hw'
  obtain ⟨⟨dq, osq⟩, hw''⟩ := hw'
  subst hw''
  clear q1 q2 v1 v2 v3 v4 v5 v6 v7 v8 v9 v10
  obtain ⟨W3, hW3⟩ : ∃ W3, W3 = grow (redrawn W2 dq) osq := ⟨_, rfl⟩
  rw [← hW3]
  have hbW3 : Below W2.heap.size W2 W3 := by rw [hW3]; exact below_regrown W2 dq osq
  clear hW3
  have r1 := H2.out.2.2.2.1.to hbW3
  have r2 := H2.out.2.2.2.2.1.to hbW3
  have r3 := H2.out.2.2.2.2.2.to hbW3
  have hb03 := below_trans H2.out.1 hbW3
  have hg3 : Good W3 := HG.out.to hb03
  obtain ⟨u1, u2⟩ := r1
  obtain ⟨u3, u4⟩ := r2
  obtain ⟨u5, u6⟩ := r3
  have HB3 := Lib.hid hb03; clear hb03
  clear hbW3 H2 heq
  go_wp2_with fail
  refine (ToLine_ok p a b _ hg3 HT.out.1 HT.out.2.1 HT.out.2.2.1 HT.out.2.2.2.1 HT.out.2.2.2.2).mono ?_
  rintro e w4 ⟨rfl, hb4⟩
  go_wp2_with fail
  go_ret2
  exact ⟨rfl, below_trans HB3.out hb4⟩

end Go.Proofs.YtgdlfjofefhdoaaGreatDoor
