/- Package vector: points in space: high, all, reach, dot, turn, normal. Package vector: normal, Normal, Volume, SquareSpace, ToPlane. Package vector: Normal and SquareSpace. Package vector: ToPlane (over what the integers' operations do). -/
import Derived.Test.YtgdlfjofefhdoaaGreatDoorVecPl
import Derived.Deep.RegionHeld3
namespace Go.Proofs.YtgdlfjofefhdoaaGreatDoor
open Go.RowKit Go.Sort Go.Lib Mb

abbrev V3 (p : P3) : Value := .agg #[.int .i64 p.x, .int .i64 p.y, .int .i64 p.z]
abbrev B3 (p : P3) (t : TypeId) : Obj := .cells #[.int .i64 p.x, .int .i64 p.y, .int .i64 p.z] t
def highB (p : P3) : Bool := inB p.x && (inB p.y && inB p.z)

theorem high_calls (p : P3) (w : World) :
    Calls Tryz.prog 65 #[V3 p] w fun e w' => e = .returned (.bool (highB p)) ∧ Below w.heap.size w w' := by
  obtain ⟨x, y, z⟩ := p
  cases h1 : inB x with
  | true =>
    cases h2 : inB y with
    | true =>
      go_enter Tryz.func65, Tryz.ntmps65
      go_wp2_with (go_at_call 106; refine (within_calls _ _).mono ?_; rintro e w' ⟨rfl, rfl⟩)
      go_ret
      exact ⟨ret_b (by simp [highB, h1, h2]), alloc_below _ _⟩
    | false =>
      go_enter Tryz.func65, Tryz.ntmps65
      go_wp2_with (go_at_call 106; refine (within_calls _ _).mono ?_; rintro e w' ⟨rfl, rfl⟩)
      go_ret
      exact ⟨ret_b (by simp [highB, h1, h2]), alloc_below _ _⟩
  | false =>
    go_enter Tryz.func65, Tryz.ntmps65
    go_wp2_with (go_at_call 106; refine (within_calls _ _).mono ?_; rintro e w' ⟨rfl, rfl⟩)
    go_ret
    exact ⟨ret_b (by simp [highB, h1]), alloc_below _ _⟩

/-- cells that hold points in space -/
def Spts (w : World) (b o : Nat) (l : List P3) : Prop := b < w.heap.size ∧ ∀ i (h : i < l.length), w.cell? ⟨b, o + i * 3, none⟩ = some (.int .i64 l[i].x) ∧ w.cell? ⟨b, o + i * 3 + 1, none⟩ = some (.int .i64 l[i].y) ∧ w.cell? ⟨b, o + i * 3 + 2, none⟩ = some (.int .i64 l[i].z)
theorem Spts.to {w w' : World} {b o : Nat} {l : List P3} (h : Spts w b o l) (hb : Below w.heap.size w w') : Spts w' b o l :=
  ⟨Nat.lt_of_lt_of_le h.1 hb.size, fun i hi => ⟨(hb.cell (p := ⟨b, _, none⟩) h.1).trans (h.2 i hi).1, (hb.cell (p := ⟨b, _, none⟩) h.1).trans (h.2 i hi).2.1, (hb.cell (p := ⟨b, _, none⟩) h.1).trans (h.2 i hi).2.2⟩⟩

def errOf3 (l : List P3) : Int := if l.all highB then 0 else 2

set_option maxHeartbeats 800000 in
theorem allS_calls (l : List P3) (b o cap : Nat) (w : World) (hT : Spts w b o l) (hn : l.length ≤ 1000000) :
    Calls Tryz.prog 64 #[.func (.func 65) #[] #[], .slice (some ⟨b, o, none⟩) l.length cap] w fun e w' => e = .returned (.int .i64 (errOf3 l)) ∧ Below w.heap.size w w' := by
  go_enter Tryz.func64, Tryz.ntmps64
  go_wp2
  go_loopg [9] l.length (fun g i wr => ∃ k : Nat, k + g = l.length ∧ i = .int .i64 k ∧ Below w.heap.size w wr ∧ errOf3 (l.drop k) = errOf3 l)
  case atStart => exact ⟨0, Nat.zero_add _, rfl, Below.refl _ _, by rw [List.drop_zero]⟩
  case round =>
    obtain ⟨k, hk, rfl, hbel, herr⟩ := hrel
    have HE := Lib.hid herr; clear herr
    by_cases hlt : k < l.length
    · have hp := (hT.to hbel).2 k hlt
      obtain ⟨p, hpp⟩ : ∃ p, l[k] = p := ⟨_, rfl⟩
      rw [hpp] at hp
      obtain ⟨c1, c2, c3⟩ := hp
      have HP := Lib.hid hpp; clear hpp
      cases hf : highB p with
      | true =>
        have HF := Lib.hid hf
        go_wp2_with fail
        refine (high_calls p _).mono ?_
        rintro e w1 ⟨rfl, hb1⟩
        go_wp2_with fail
        go_roundg (gk - 1)
        case measure => omega
        case rel =>
          refine ⟨k + 1, by omega, by go_num, hbel.trans ((below_trans (alloc_below _ _) hb1).mono hbel.size), ?_⟩
          rw [← HE.out, List.drop_eq_getElem_cons hlt, HP.out]
          simp [errOf3, HF.out]
      | false =>
        have HF := Lib.hid hf
        go_wp2_with fail
        refine (high_calls p _).mono ?_
        rintro e w1 ⟨rfl, hb1⟩
        go_wp2_with fail
        go_ret
        refine ⟨ret_i ?_, hbel.trans ((below_trans (alloc_below _ _) hb1).mono hbel.size)⟩
        rw [← HE.out, List.drop_eq_getElem_cons hlt, HP.out]
        simp [errOf3, HF.out]
    · go_wp2
      go_ret
      refine ⟨ret_i ?_, hbel⟩
      rw [← HE.out, List.drop_eq_nil_of_le (by omega)]; rfl

theorem allS_is (l : List P3) (k : Int) (hk : errOf3 l = k) (b o cap n : Nat) (hl : l.length = n) (w : World) (hT : Spts w b o l) (hn : l.length ≤ 1000000) :
    Calls Tryz.prog 64 #[.func (.func 65) #[] #[], .slice (some ⟨b, o, none⟩) n cap] w fun e w' => e = .returned (.int .i64 k) ∧ Below w.heap.size w w' := by
  subst hl; subst hk; exact allS_calls l b o cap w hT hn

theorem err3_ok {l : List P3} (h : ∀ p ∈ l, highB p = true) : errOf3 l = 0 := by
  unfold errOf3; rw [if_pos (by simpa using h)]

/-- coordinates of at most this magnitude -/
def Bd3 (M : Int) (p : P3) : Prop := (-M ≤ p.x ∧ p.x ≤ M) ∧ (-M ≤ p.y ∧ p.y ≤ M) ∧ -M ≤ p.z ∧ p.z ≤ M
theorem Bd3.mono {M N : Int} {p : P3} (h : Bd3 M p) (hm : M ≤ N) : Bd3 N p := ⟨by have := h.1; omega, by have := h.2.1; omega, by have := h.2.2; omega⟩
theorem bd_high {p : P3} (h : highB p = true) : Bd3 100000 p := by
  simp only [highB, Bool.and_eq_true] at h
  exact ⟨inB_t h.1, inB_t h.2.1, inB_t h.2.2⟩
theorem Bd3.sub {M N : Int} {a b : P3} (ha : Bd3 M a) (hb : Bd3 N b) : Bd3 (M + N) (sub3 b a) := by
  obtain ⟨⟨_, _⟩, ⟨_, _⟩, _, _⟩ := ha; obtain ⟨⟨_, _⟩, ⟨_, _⟩, _, _⟩ := hb
  exact ⟨⟨by show _ ≤ b.x - a.x; omega, by show b.x - a.x ≤ _; omega⟩, ⟨by show _ ≤ b.y - a.y; omega, by show b.y - a.y ≤ _; omega⟩, by show _ ≤ b.z - a.z; omega, by show b.z - a.z ≤ _; omega⟩

set_option maxHeartbeats 400000 in
theorem reach_calls (a b : P3) (w : World) (ha : Bd3 1000000 a) (hb : Bd3 1000000 b) :
    Calls Tryz.prog 70 #[V3 a, V3 b] w fun e w' => e = .returned (V3 (sub3 b a)) ∧ Below w.heap.size w w' := by
  obtain ⟨⟨a1, a2⟩, ⟨a3, a4⟩, a5, a6⟩ := ha
  obtain ⟨⟨b1, b2⟩, ⟨b3, b4⟩, b5, b6⟩ := hb
  obtain ⟨ax, ay, az⟩ := a
  obtain ⟨bx, by', bz⟩ := b
  simp only at a1 a2 a3 a4 a5 a6 b1 b2 b3 b4 b5 b6
  go_enter Tryz.func70, Tryz.ntmps70
  go_wp2
  exact bodyPost_ret (v := .agg #[.int .i64 (bx - ax), .int .i64 (by' - ay), .int .i64 (bz - az)]) (by simp [results, Tryz.results70, go_sem]) rfl ⟨rfl, below3 _ _ _ _⟩

set_option maxHeartbeats 800000 in
theorem bdot_calls (a b : P3) (M N : Int) (w : World) (ha : Bd3 M a) (hb : Bd3 N b) (hMN : M * N ≤ 2000000000000000000) :
    Calls Tryz.prog 69 #[V3 a, V3 b] w fun e w' => e = .returned (.int .i64 (dt3 a b)) ∧ Below w.heap.size w w' := by
  have h1 := Mb.mul_bd ha.1 hb.1
  have h2 := Mb.mul_bd ha.2.1 hb.2.1
  have h3 := Mb.mul_bd ha.2.2 hb.2.2
  obtain ⟨l1, u1⟩ : -2000000000000000000 ≤ a.x * b.x ∧ a.x * b.x ≤ 2000000000000000000 := by omega
  obtain ⟨l2, u2⟩ : -2000000000000000000 ≤ a.y * b.y ∧ a.y * b.y ≤ 2000000000000000000 := by omega
  obtain ⟨l3, u3⟩ : -2000000000000000000 ≤ a.z * b.z ∧ a.z * b.z ≤ 2000000000000000000 := by omega
  clear ha hb h1 h2 h3 hMN
  obtain ⟨ax, ay, az⟩ := a
  obtain ⟨bx, by', bz⟩ := b
  simp only at l1 u1 l2 u2 l3 u3
  go_enter Tryz.func69, Tryz.ntmps69
  go_wp2
  go_ret
  exact ⟨rfl, below2 _ _ _⟩

set_option maxHeartbeats 800000 in
theorem bturn_calls (a b : P3) (w : World) (ha : Bd3 1000000000 a) (hb : Bd3 1000000000 b) :
    Calls Tryz.prog 115 #[V3 a, V3 b] w fun e w' => e = .returned (V3 (vec a b)) ∧ Below w.heap.size w w' := by
  obtain ⟨l1, u1⟩ := Mb.mul_bd ha.2.1 hb.2.2
  obtain ⟨l2, u2⟩ := Mb.mul_bd ha.2.2 hb.2.1
  obtain ⟨l3, u3⟩ := Mb.mul_bd ha.2.2 hb.1
  obtain ⟨l4, u4⟩ := Mb.mul_bd ha.1 hb.2.2
  obtain ⟨l5, u5⟩ := Mb.mul_bd ha.1 hb.2.1
  obtain ⟨l6, u6⟩ := Mb.mul_bd ha.2.1 hb.1
  clear ha hb
  obtain ⟨ax, ay, az⟩ := a
  obtain ⟨bx, by', bz⟩ := b
  simp only at l1 u1 l2 u2 l3 u3 l4 u4 l5 u5 l6 u6
  go_enter Tryz.func115, Tryz.ntmps115
  go_wp2
  exact bodyPost_ret (v := .agg #[.int .i64 (ay * bz - az * by'), .int .i64 (az * bx - ax * bz), .int .i64 (ax * by' - ay * bx)]) (by simp [results, Tryz.results115, go_sem]) rfl ⟨rfl, below3 _ _ _ _⟩

/-- a block that holds one point in space -/
def Bx3 (w : World) (b : Nat) (p : P3) : Prop := w.cell? ⟨b, 0, none⟩ = some (.int .i64 p.x) ∧ w.cell? ⟨b, 1, none⟩ = some (.int .i64 p.y) ∧ w.cell? ⟨b, 2, none⟩ = some (.int .i64 p.z)
theorem Bx3.to {w w' : World} {b : Nat} {p : P3} (h : Bx3 w b p) (hb : Below w.heap.size w w') : Bx3 w' b p := ⟨cell_to h.1 hb, cell_to h.2.1 hb, cell_to h.2.2 hb⟩
theorem Bx3.lt {w : World} {b : Nat} {p : P3} (h : Bx3 w b p) : b < w.heap.size := World.block_lt_of_cell? _ _ h.1
theorem bx3_new (w : World) (p : P3) (t : TypeId) : Bx3 (w.alloc (B3 p t)) w.heap.size p := ⟨cell_new _ _ _ _ _ rfl, cell_new _ _ _ _ _ rfl, cell_new _ _ _ _ _ rfl⟩
theorem bx3_2 (w : World) (a b : P3) (t u : TypeId) : Bx3 ((w.alloc (B3 a t)).alloc (B3 b u)) w.heap.size a ∧ Bx3 ((w.alloc (B3 a t)).alloc (B3 b u)) (w.heap.size + 1) b :=
  ⟨(bx3_new _ _ _).to (alloc_below _ _), by have := bx3_new (w.alloc (B3 a t)) b u; rwa [size_alloc1] at this⟩
theorem bx3_3 (w : World) (a b c : P3) (t u v : TypeId) : Bx3 (((w.alloc (B3 a t)).alloc (B3 b u)).alloc (B3 c v)) w.heap.size a ∧ Bx3 (((w.alloc (B3 a t)).alloc (B3 b u)).alloc (B3 c v)) (w.heap.size + 1) b ∧ Bx3 (((w.alloc (B3 a t)).alloc (B3 b u)).alloc (B3 c v)) (w.heap.size + 2) c :=
  ⟨(bx3_2 w a b t u).1.to (alloc_below _ _), (bx3_2 w a b t u).2.to (alloc_below _ _), by have := bx3_new ((w.alloc (B3 a t)).alloc (B3 b u)) c v; rwa [size_alloc1, size_alloc1] at this⟩

end Go.Proofs.YtgdlfjofefhdoaaGreatDoor

namespace Go.Proofs.YtgdlfjofefhdoaaGreatDoor
open Go.RowKit Go.Sort Go.Lib Mb

theorem keep9 {w : World} {i j k : Nat} {a b c : P3} (g1 : Bx3 w i a) (g2 : Bx3 w j b) (g3 : Bx3 w k c) :
    w.cell? ⟨i, 0, none⟩ = some (.int .i64 a.x) ∧ w.cell? ⟨i, 1, none⟩ = some (.int .i64 a.y) ∧ w.cell? ⟨i, 2, none⟩ = some (.int .i64 a.z) ∧
    w.cell? ⟨j, 0, none⟩ = some (.int .i64 b.x) ∧ w.cell? ⟨j, 1, none⟩ = some (.int .i64 b.y) ∧ w.cell? ⟨j, 2, none⟩ = some (.int .i64 b.z) ∧
    w.cell? ⟨k, 0, none⟩ = some (.int .i64 c.x) ∧ w.cell? ⟨k, 1, none⟩ = some (.int .i64 c.y) ∧ w.cell? ⟨k, 2, none⟩ = some (.int .i64 c.z) :=
  ⟨g1.1, g1.2.1, g1.2.2, g2.1, g2.2.1, g2.2.2, g3.1, g3.2.1, g3.2.2⟩

theorem Bx3.below {w w' : World} {b B : Nat} {p : P3} (h : Bx3 w b p) (hb : Below B w w') (hB : b < B) : Bx3 w' b p := ⟨(hb.cell (p := ⟨b, 0, none⟩) hB).trans h.1, (hb.cell (p := ⟨b, 1, none⟩) hB).trans h.2.1, (hb.cell (p := ⟨b, 2, none⟩) hB).trans h.2.2⟩

set_option maxHeartbeats 1600000 in
theorem normal_calls (a b c : P3) (w : World) (ha : Bd3 1000000 a) (hb : Bd3 1000000 b) (hc : Bd3 1000000 c) :
    Calls Tryz.prog 66 #[V3 a, V3 b, V3 c] w fun e w' => e = .returned (V3 (nrm a b c)) ∧ Below w.heap.size w w' := by
  have h1 := (ha.sub hb).mono (show (1000000 : Int) + 1000000 ≤ 1000000000 by omega)
  have h2 := (ha.sub hc).mono (show (1000000 : Int) + 1000000 ≤ 1000000000 by omega)
  have HA := Lib.hid (And.intro ha (And.intro hb (And.intro hc (And.intro h1 h2)))); clear ha hb hc h1 h2
  go_enter Tryz.func66, Tryz.ntmps66
  go_wp2_with fail
  obtain ⟨W, hW⟩ : ∃ W, W = (((w.alloc (B3 a 33)).alloc (B3 b 33)).alloc (B3 c 33)).alloc (.cells #[.int .i64 0, .int .i64 0, .int .i64 0] 104) := ⟨_, rfl⟩
  rw [← hW]
  have hbel : Below w.heap.size w W := by rw [hW]; exact below_trans (below3 _ _ _ _) (alloc_below _ _)
  have hx := bx3_3 w a b c 33 33 33
  have g1 : Bx3 W w.heap.size a := by rw [hW]; exact hx.1.to (alloc_below _ _)
  have g2 : Bx3 W (w.heap.size + 1) b := by rw [hW]; exact hx.2.1.to (alloc_below _ _)
  have g3 : Bx3 W (w.heap.size + 2) c := by rw [hW]; exact hx.2.2.to (alloc_below _ _)
  have g4 : Blk W (w.heap.size + 3) #[.int .i64 0, .int .i64 0, .int .i64 0] 104 := by
    rw [hW]
    have := blk_new (((w.alloc (B3 a 33)).alloc (B3 b 33)).alloc (B3 c 33)) #[.int .i64 0, .int .i64 0, .int .i64 0] 104
    rwa [size_alloc1, size_alloc1, size_alloc1] at this
  clear hx hW
  have HW := Lib.hid (And.intro hbel g4)
  have B0 : Below W.heap.size W W.drew := (Below.refl _ _).drew
  go_region_held3 (fun w' => w'.cell? ⟨w.heap.size, 0, none⟩ = some (.int .i64 a.x) ∧ w'.cell? ⟨w.heap.size, 1, none⟩ = some (.int .i64 a.y) ∧ w'.cell? ⟨w.heap.size, 2, none⟩ = some (.int .i64 a.z) ∧ w'.cell? ⟨w.heap.size + 1, 0, none⟩ = some (.int .i64 b.x) ∧ w'.cell? ⟨w.heap.size + 1, 1, none⟩ = some (.int .i64 b.y) ∧ w'.cell? ⟨w.heap.size + 1, 2, none⟩ = some (.int .i64 b.z) ∧ w'.cell? ⟨w.heap.size + 1 + 1, 0, none⟩ = some (.int .i64 c.x) ∧ w'.cell? ⟨w.heap.size + 1 + 1, 1, none⟩ = some (.int .i64 c.y) ∧ w'.cell? ⟨w.heap.size + 1 + 1, 2, none⟩ = some (.int .i64 c.z))
    (first | exact keep9 (g1.to B0) (g2.to B0) (g3.to B0) | exact keep9 (g1.to B1) (g2.to B1) (g3.to B1) | exact keep9 (g1.to B2) (g2.to B2) (g3.to B2) | exact keep9 (g1.to B3) (g2.to B3) (g3.to B3) | (have B4 := (((B3.mono (Nat.le_of_lt g4.lt)).setCell (p := ⟨w.heap.size + 1 + 1 + 1, 0, none⟩) (Nat.le_refl _) (.int .i64 (nrm a b c).x)).setCell (p := ⟨w.heap.size + 1 + 1 + 1, 1, none⟩) (Nat.le_refl _) (.int .i64 (nrm a b c).y)).setCell (p := ⟨w.heap.size + 1 + 1 + 1, 2, none⟩) (Nat.le_refl _) (.int .i64 (nrm a b c).z); exact keep9 (g1.below B4 (by omega)) (g2.below B4 (by omega)) (g3.below B4 (by omega))))
    (first | (go_at_call 70; (with_reducible refine (reach_calls a b _ HA.out.1 HA.out.2.1).mono ?_); rintro e w1 ⟨rfl, hb1⟩; have B1 := below_trans B0 hb1) | (go_at_call 70; (with_reducible refine (reach_calls a c _ HA.out.1 HA.out.2.2.1).mono ?_); rintro e w2 ⟨rfl, hb2⟩; have B2 := below_trans B1 hb2) | (go_at_call 115; refine (bturn_calls _ _ _ HA.out.2.2.2.1 HA.out.2.2.2.2).mono ?_; rintro e w3 ⟨rfl, hb3⟩; have B3 := below_trans B2 hb3; have s0 : w3.cell? ⟨w.heap.size + 1 + 1 + 1, 0, none⟩ = some (.int .i64 0) := (g4.to B3).c 0 _ rfl; have s1 : w3.cell? ⟨w.heap.size + 1 + 1 + 1, 1, none⟩ = some (.int .i64 0) := (g4.to B3).c 1 _ rfl; have s2 : w3.cell? ⟨w.heap.size + 1 + 1 + 1, 2, none⟩ = some (.int .i64 0) := (g4.to B3).c 2 _ rfl; have s3 := (g4.to B3).free 0; have s4 := (g4.to B3).free 1; have s5 := (g4.to B3).free 2))
  have hn := (g4.to B3)
  have r0 : (w3.setCell ⟨w.heap.size + 1 + 1 + 1, 0, none⟩ (.int .i64 (vec (sub3 b a) (sub3 c a)).x)).cell? ⟨w.heap.size + 1 + 1 + 1, 0, none⟩ = some (.int .i64 (vec (sub3 b a) (sub3 c a)).x) := (hn.set 0 _).c 0 _ rfl
  have r1 : ((w3.setCell ⟨w.heap.size + 1 + 1 + 1, 0, none⟩ (.int .i64 (vec (sub3 b a) (sub3 c a)).x)).setCell ⟨w.heap.size + 1 + 1 + 1, 1, none⟩ (.int .i64 (vec (sub3 b a) (sub3 c a)).y)).cell? ⟨w.heap.size + 1 + 1 + 1, 1, none⟩ = some (.int .i64 (vec (sub3 b a) (sub3 c a)).y) := ((hn.set 0 _).set 1 _).c 1 _ rfl
  have r2 : (((w3.setCell ⟨w.heap.size + 1 + 1 + 1, 0, none⟩ (.int .i64 (vec (sub3 b a) (sub3 c a)).x)).setCell ⟨w.heap.size + 1 + 1 + 1, 1, none⟩ (.int .i64 (vec (sub3 b a) (sub3 c a)).y)).setCell ⟨w.heap.size + 1 + 1 + 1, 2, none⟩ (.int .i64 (vec (sub3 b a) (sub3 c a)).z)).cell? ⟨w.heap.size + 1 + 1 + 1, 2, none⟩ = some (.int .i64 (vec (sub3 b a) (sub3 c a)).z) := (((hn.set 0 _).set 1 _).set 2 _).c 2 _ rfl
  have B4 : Below w.heap.size w w3 := hbel.trans (B3.mono hbel.size)
  go_wp2_with fail
  refine bodyPost_ret (v := V3 (nrm a b c)) (by simp [results, Tryz.results66, go_sem, r0, r1, r2]; exact ⟨rfl, rfl, rfl⟩) rfl ⟨rfl, ?_⟩
  exact ((B4.setCell (p := ⟨w.heap.size + 1 + 1 + 1, 0, none⟩) (by show w.heap.size ≤ w.heap.size + 1 + 1 + 1; omega) _).setCell (p := ⟨w.heap.size + 1 + 1 + 1, 1, none⟩) (by show w.heap.size ≤ w.heap.size + 1 + 1 + 1; omega) _).setCell (p := ⟨w.heap.size + 1 + 1 + 1, 2, none⟩) (by show w.heap.size ≤ w.heap.size + 1 + 1 + 1; omega) _

theorem spts_new2 (w : World) (a b : P3) (t : TypeId) : Spts (w.alloc (.cells #[.int .i64 a.x, .int .i64 a.y, .int .i64 a.z, .int .i64 b.x, .int .i64 b.y, .int .i64 b.z] t)) w.heap.size 0 [a, b] := by
  refine ⟨by simp, fun i h => ?_⟩
  match i, h with
  | 0, _ => exact ⟨cell_new _ _ _ _ _ rfl, cell_new _ _ _ _ _ rfl, cell_new _ _ _ _ _ rfl⟩
  | 1, _ => exact ⟨cell_new _ _ _ _ _ rfl, cell_new _ _ _ _ _ rfl, cell_new _ _ _ _ _ rfl⟩

theorem spts_new3 (w : World) (a b c : P3) (t : TypeId) : Spts (w.alloc (.cells #[.int .i64 a.x, .int .i64 a.y, .int .i64 a.z, .int .i64 b.x, .int .i64 b.y, .int .i64 b.z, .int .i64 c.x, .int .i64 c.y, .int .i64 c.z] t)) w.heap.size 0 [a, b, c] := by
  refine ⟨by simp, fun i h => ?_⟩
  match i, h with
  | 0, _ => exact ⟨cell_new _ _ _ _ _ rfl, cell_new _ _ _ _ _ rfl, cell_new _ _ _ _ _ rfl⟩
  | 1, _ => exact ⟨cell_new _ _ _ _ _ rfl, cell_new _ _ _ _ _ rfl, cell_new _ _ _ _ _ rfl⟩
  | 2, _ => exact ⟨cell_new _ _ _ _ _ rfl, cell_new _ _ _ _ _ rfl, cell_new _ _ _ _ _ rfl⟩

theorem spts_new4 (w : World) (a b c d : P3) (t : TypeId) : Spts (w.alloc (.cells #[.int .i64 a.x, .int .i64 a.y, .int .i64 a.z, .int .i64 b.x, .int .i64 b.y, .int .i64 b.z, .int .i64 c.x, .int .i64 c.y, .int .i64 c.z, .int .i64 d.x, .int .i64 d.y, .int .i64 d.z] t)) w.heap.size 0 [a, b, c, d] := by
  refine ⟨by simp, fun i h => ?_⟩
  match i, h with
  | 0, _ => exact ⟨cell_new _ _ _ _ _ rfl, cell_new _ _ _ _ _ rfl, cell_new _ _ _ _ _ rfl⟩
  | 1, _ => exact ⟨cell_new _ _ _ _ _ rfl, cell_new _ _ _ _ _ rfl, cell_new _ _ _ _ _ rfl⟩
  | 2, _ => exact ⟨cell_new _ _ _ _ _ rfl, cell_new _ _ _ _ _ rfl, cell_new _ _ _ _ _ rfl⟩
  | 3, _ => exact ⟨cell_new _ _ _ _ _ rfl, cell_new _ _ _ _ _ rfl, cell_new _ _ _ _ _ rfl⟩

theorem bx3_4 (w : World) (a b c d : P3) (t u v x : TypeId) : Bx3 ((((w.alloc (B3 a t)).alloc (B3 b u)).alloc (B3 c v)).alloc (B3 d x)) w.heap.size a ∧ Bx3 ((((w.alloc (B3 a t)).alloc (B3 b u)).alloc (B3 c v)).alloc (B3 d x)) (w.heap.size + 1) b ∧ Bx3 ((((w.alloc (B3 a t)).alloc (B3 b u)).alloc (B3 c v)).alloc (B3 d x)) (w.heap.size + 2) c ∧ Bx3 ((((w.alloc (B3 a t)).alloc (B3 b u)).alloc (B3 c v)).alloc (B3 d x)) (w.heap.size + 3) d :=
  ⟨(bx3_3 w a b c t u v).1.to (alloc_below _ _), (bx3_3 w a b c t u v).2.1.to (alloc_below _ _), (bx3_3 w a b c t u v).2.2.to (alloc_below _ _), by have := bx3_new (((w.alloc (B3 a t)).alloc (B3 b u)).alloc (B3 c v)) d x; rwa [size_alloc1, size_alloc1, size_alloc1] at this⟩

theorem nrm_bd {a b c : P3} (ha : Bd3 100000 a) (hb : Bd3 100000 b) (hc : Bd3 100000 c) : Bd3 80000000000 (nrm a b c) := by
  have h1 := ha.sub hb
  have h2 := ha.sub hc
  simp only [nrm, vec]
  generalize sub3 b a = u at *
  generalize sub3 c a = v at *
  obtain ⟨l1, u1⟩ := Mb.mul_bd h1.2.1 h2.2.2
  obtain ⟨l2, u2⟩ := Mb.mul_bd h1.2.2 h2.2.1
  obtain ⟨l3, u3⟩ := Mb.mul_bd h1.2.2 h2.1
  obtain ⟨l4, u4⟩ := Mb.mul_bd h1.1 h2.2.2
  obtain ⟨l5, u5⟩ := Mb.mul_bd h1.1 h2.2.1
  obtain ⟨l6, u6⟩ := Mb.mul_bd h1.2.1 h2.1
  refine ⟨⟨?_, ?_⟩, ⟨?_, ?_⟩, ?_, ?_⟩ <;> simp only [] <;> omega

set_option maxHeartbeats 800000 in
theorem Volume_ok (a b c d : P3) (w : World) (ha : highB a = true) (hb : highB b = true) (hc : highB c = true) (hd : highB d = true) :
    Calls Tryz.prog 18 #[V3 a, V3 b, V3 c, V3 d] w fun e w' => e = .returned (.tuple #[.int .i64 (six a b c d), .int .i64 0]) ∧ Below w.heap.size w w' := by
  have he : errOf3 [a, b, c, d] = 0 := err3_ok (by simp [ha, hb, hc, hd])
  have hx := bx3_4 w a b c d 33 33 33 33
  have hp := spts_new4 ((((w.alloc (B3 a 33)).alloc (B3 b 33)).alloc (B3 c 33)).alloc (B3 d 33)) a b c d 33
  rw [size_alloc1, size_alloc1, size_alloc1, size_alloc1] at hp
  have HX := Lib.hid (And.intro hx hp); clear hx hp
  have HE := Lib.hid he; clear he
  have HA := Lib.hid (And.intro (bd_high ha) (And.intro (bd_high hb) (And.intro (bd_high hc) (bd_high hd)))); clear ha hb hc hd
  go_enter Tryz.func18, Tryz.ntmps18
  go_wp2_with fail
  refine (allS_is [a, b, c, d] 0 HE.out _ 0 _ 4 rfl _ HX.out.2 (by simp)).mono ?_
  rintro e w1 ⟨rfl, hb1⟩
  have hb0 := below_trans (below_trans (below_trans (below3 w _ _ _) (alloc_below _ _)) (alloc_below _ _)) hb1
  have h1 := (HX.out.1.1.to (alloc_below _ _)).to hb1
  have h2 := (HX.out.1.2.1.to (alloc_below _ _)).to hb1
  have h3 := (HX.out.1.2.2.1.to (alloc_below _ _)).to hb1
  have h4 := (HX.out.1.2.2.2.to (alloc_below _ _)).to hb1
  clear HX hb1
  have k1 := cell_regrown h1.1
  have k2 := cell_regrown h1.2.1
  have k3 := cell_regrown h1.2.2
  have k4 := cell_regrown h2.1
  have k5 := cell_regrown h2.2.1
  have k6 := cell_regrown h2.2.2
  have k7 := cell_regrown h3.1
  have k8 := cell_regrown h3.2.1
  have k9 := cell_regrown h3.2.2
  have k10 := cell_regrown h4.1
  have k11 := cell_regrown h4.2.1
  have k12 := cell_regrown h4.2.2
  have q1 : ∀ d' os, Calls Tryz.prog 66 #[V3 a, V3 b, V3 c] (grow (redrawn w1 d') os) fun e w'' => e = .returned (V3 (nrm a b c)) ∧ ∃ p : Regrown, w'' = grow (redrawn w1 p.d) p.os := fun d' os => Calls.regrown_of (normal_calls a b c _ (HA.out.1.mono (by omega)) (HA.out.2.1.mono (by omega)) (HA.out.2.2.1.mono (by omega)))
  have q2 : ∀ d' os, Calls Tryz.prog 70 #[V3 a, V3 d] (grow (redrawn w1 d') os) fun e w'' => e = .returned (V3 (sub3 d a)) ∧ ∃ p : Regrown, w'' = grow (redrawn w1 p.d) p.os := fun d' os => Calls.regrown_of (reach_calls a d _ (HA.out.1.mono (by omega)) (HA.out.2.2.2.mono (by omega)))
  have q3 : ∀ d' os, Calls Tryz.prog 69 #[V3 (nrm a b c), V3 (sub3 d a)] (grow (redrawn w1 d') os) fun e w'' => e = .returned (.int .i64 (six a b c d)) ∧ ∃ p : Regrown, w'' = grow (redrawn w1 p.d) p.os := fun d' os => Calls.regrown_of (bdot_calls _ _ _ _ _ (nrm_bd HA.out.1 HA.out.2.1 HA.out.2.2.1) (HA.out.1.sub HA.out.2.2.2) (by omega))
  clear h1 h2 h3 h4
  go_wp2_with fail
  refine wp_region_quiet_below follows (by kernel_rfl) ?_
  repeat (quiet_step (first | with_reducible exact q1 _ _ | with_reducible exact q2 _ _ | with_reducible exact q3 _ _))
  refine wpQuiet_nil ?_
  intro _ hw'
  obtain ⟨⟨dq, osq⟩, hw''⟩ := hw'
  subst hw''
  go_wp2_with fail
  go_ret2
  exact ⟨rfl, below_trans hb0 (below_regrown w1 dq osq)⟩

set_option maxHeartbeats 800000 in
theorem Volume_err (a b c d : P3) (w : World) (he : errOf3 [a, b, c, d] = 2) :
    Calls Tryz.prog 18 #[V3 a, V3 b, V3 c, V3 d] w fun e w' => e = .returned (.tuple #[.int .i64 0, .int .i64 2]) ∧ Below w.heap.size w w' := by
  have hp := spts_new4 ((((w.alloc (B3 a 33)).alloc (B3 b 33)).alloc (B3 c 33)).alloc (B3 d 33)) a b c d 33
  rw [size_alloc1, size_alloc1, size_alloc1, size_alloc1] at hp
  have HX := Lib.hid hp; clear hp
  have HE := Lib.hid he; clear he
  go_enter Tryz.func18, Tryz.ntmps18
  go_wp2_with fail
  refine (allS_is [a, b, c, d] 2 HE.out _ 0 _ 4 rfl _ HX.out (by simp)).mono ?_
  rintro e w1 ⟨rfl, hb1⟩
  have hb0 := below_trans (below_trans (below_trans (below3 w _ _ _) (alloc_below _ _)) (alloc_below _ _)) hb1
  clear HX hb1
  go_wp2_with fail
  go_ret2
  exact ⟨rfl, hb0⟩

end Go.Proofs.YtgdlfjofefhdoaaGreatDoor

namespace Go.Proofs.YtgdlfjofefhdoaaGreatDoor
open Go.RowKit Go.Sort Go.Lib Mb

set_option maxHeartbeats 800000 in
theorem SquareSpace_ok (a b : P3) (w : World) (ha : highB a = true) (hb : highB b = true) :
    Calls Tryz.prog 20 #[V3 a, V3 b] w fun e w' => e = .returned (.tuple #[.int .i64 (dt3 (sub3 b a) (sub3 b a)), .int .i64 0]) ∧ Below w.heap.size w w' := by
  have he : errOf3 [a, b] = 0 := err3_ok (by simp [ha, hb])
  have hx := bx3_2 w a b 33 33
  have hp := spts_new2 ((w.alloc (B3 a 33)).alloc (B3 b 33)) a b 33
  rw [size_alloc1, size_alloc1] at hp
  have HX := Lib.hid (And.intro hx hp); clear hx hp
  have HE := Lib.hid he; clear he
  have HA := Lib.hid (And.intro (bd_high ha) (bd_high hb)); clear ha hb
  go_enter Tryz.func20, Tryz.ntmps20
  go_wp2_with fail
  refine (allS_is [a, b] 0 HE.out _ 0 _ 2 rfl _ HX.out.2 (by simp)).mono ?_
  rintro e w1 ⟨rfl, hb1⟩
  have hb0 := below_trans (below_trans (below2 w _ _) (alloc_below _ _)) hb1
  have h1 := (HX.out.1.1.to (alloc_below _ _)).to hb1
  have h2 := (HX.out.1.2.to (alloc_below _ _)).to hb1
  obtain ⟨c1, c2, c3⟩ := h1
  obtain ⟨c4, c5, c6⟩ := h2
  clear HX hb1
  go_wp2_with fail
  refine (reach_calls a b _ (HA.out.1.mono (by omega)) (HA.out.2.mono (by omega))).mono ?_
  rintro e w2 ⟨rfl, hb2⟩
  have hb00 := below_trans hb0 hb2
  have hn := bx3_new w2 (sub3 b a) 104
  obtain ⟨d1, d2, d3⟩ := hn
  have hW : Below w.heap.size w (w2.alloc (B3 (sub3 b a) 104)) := below_trans hb00 (alloc_below _ _)
  go_wp2_with fail
  refine (bdot_calls (sub3 b a) (sub3 b a) _ _ _ (HA.out.1.sub HA.out.2) (HA.out.1.sub HA.out.2) (by omega)).mono ?_
  rintro e w3 ⟨rfl, hb3⟩
  have hb4 := below_trans hW hb3
  go_wp2_with fail
  go_ret2
  exact ⟨rfl, hb4⟩

set_option maxHeartbeats 800000 in
theorem SquareSpace_err (a b : P3) (w : World) (he : errOf3 [a, b] = 2) :
    Calls Tryz.prog 20 #[V3 a, V3 b] w fun e w' => e = .returned (.tuple #[.int .i64 0, .int .i64 2]) ∧ Below w.heap.size w w' := by
  have hp := spts_new2 ((w.alloc (B3 a 33)).alloc (B3 b 33)) a b 33
  rw [size_alloc1, size_alloc1] at hp
  have HX := Lib.hid hp; clear hp
  have HE := Lib.hid he; clear he
  go_enter Tryz.func20, Tryz.ntmps20
  go_wp2_with fail
  refine (allS_is [a, b] 2 HE.out _ 0 _ 2 rfl _ HX.out (by simp)).mono ?_
  rintro e w1 ⟨rfl, hb1⟩
  have hb0 := below_trans (below_trans (below2 w _ _) (alloc_below _ _)) hb1
  clear HX hb1
  go_wp2_with fail
  go_ret2
  exact ⟨rfl, hb0⟩

set_option maxHeartbeats 800000 in
theorem Normal_ok (a b c : P3) (w : World) (ha : highB a = true) (hb : highB b = true) (hc : highB c = true) :
    Calls Tryz.prog 16 #[V3 a, V3 b, V3 c] w fun e w' => e = .returned (.tuple #[V3 (nrm a b c), .int .i64 0]) ∧ Below w.heap.size w w' := by
  have he : errOf3 [a, b, c] = 0 := err3_ok (by simp [ha, hb, hc])
  have hx := bx3_3 w a b c 33 33 33
  have hr := blk_new (((w.alloc (B3 a 33)).alloc (B3 b 33)).alloc (B3 c 33)) #[.int .i64 0, .int .i64 0, .int .i64 0] 35
  have hp := spts_new3 ((((w.alloc (B3 a 33)).alloc (B3 b 33)).alloc (B3 c 33)).alloc (.cells #[.int .i64 0, .int .i64 0, .int .i64 0] 35)) a b c 33
  rw [size_alloc1, size_alloc1, size_alloc1] at hr
  rw [size_alloc1, size_alloc1, size_alloc1, size_alloc1] at hp
  have HX := Lib.hid (And.intro hx (And.intro hr hp)); clear hx hr hp
  have HE := Lib.hid he; clear he
  have HA := Lib.hid (And.intro (bd_high ha) (And.intro (bd_high hb) (bd_high hc))); clear ha hb hc
  go_enter Tryz.func16, Tryz.ntmps16
  go_wp2_with fail
  refine (allS_is [a, b, c] 0 HE.out _ 0 _ 3 rfl _ HX.out.2.2 (by simp)).mono ?_
  rintro e w1 ⟨rfl, hb1⟩
  have hb0 := below_trans (below_trans (below_trans (below3 w _ _ _) (alloc_below _ _)) (alloc_below _ _)) hb1
  have h1 := ((HX.out.1.1.to (alloc_below _ _)).to (alloc_below _ _)).to hb1
  have h2 := ((HX.out.1.2.1.to (alloc_below _ _)).to (alloc_below _ _)).to hb1
  have h3 := ((HX.out.1.2.2.to (alloc_below _ _)).to (alloc_below _ _)).to hb1
  have h4 := (HX.out.2.1.to (alloc_below _ _)).to hb1
  obtain ⟨c1, c2, c3⟩ := h1
  obtain ⟨c4, c5, c6⟩ := h2
  obtain ⟨c7, c8, c9⟩ := h3
  clear HX hb1
  go_wp2_with fail
  refine (normal_calls a b c _ (HA.out.1.mono (by omega)) (HA.out.2.1.mono (by omega)) (HA.out.2.2.mono (by omega))).mono ?_
  rintro e w2 ⟨rfl, hb2⟩
  have hb00 := below_trans hb0 hb2
  have hn := bx3_new w2 (nrm a b c) 104
  obtain ⟨d1, d2, d3⟩ := hn
  have g4 := (h4.to hb2).to (alloc_below _ (B3 (nrm a b c) 104))
  have f0 := g4.free 0
  have f1 := g4.free 1
  have f2 := g4.free 2
  have e0 := g4.c 0 _ rfl
  have e1 := g4.c 1 _ rfl
  have e2 := g4.c 2 _ rfl
  have hW : Below w.heap.size w (w2.alloc (B3 (nrm a b c) 104)) := below_trans hb00 (alloc_below _ _)
  go_wp2_with fail
  have r0 := (g4.set 0 (.int .i64 (nrm a b c).x)).c 0 _ rfl
  have r1 := ((g4.set 0 (.int .i64 (nrm a b c).x)).set 1 (.int .i64 (nrm a b c).y)).c 1 _ rfl
  have r2 := (((g4.set 0 (.int .i64 (nrm a b c).x)).set 1 (.int .i64 (nrm a b c).y)).set 2 (.int .i64 (nrm a b c).z)).c 2 _ rfl
  refine bodyPost_ret (v := .tuple #[V3 (nrm a b c), .int .i64 0]) (by simp [results, Tryz.results16, go_sem, r0, r1, r2]; done) rfl ⟨rfl, ?_⟩
  exact ((hW.setCell (p := ⟨w.heap.size + 1 + 1 + 1, 0, none⟩) (by show w.heap.size ≤ w.heap.size + 1 + 1 + 1; omega) _).setCell (p := ⟨w.heap.size + 1 + 1 + 1, 1, none⟩) (by show w.heap.size ≤ w.heap.size + 1 + 1 + 1; omega) _).setCell (p := ⟨w.heap.size + 1 + 1 + 1, 2, none⟩) (by show w.heap.size ≤ w.heap.size + 1 + 1 + 1; omega) _

set_option maxHeartbeats 800000 in
theorem Normal_err (a b c : P3) (w : World) (he : errOf3 [a, b, c] = 2) :
    Calls Tryz.prog 16 #[V3 a, V3 b, V3 c] w fun e w' => e = .returned (.tuple #[.agg #[.int .i64 0, .int .i64 0, .int .i64 0], .int .i64 2]) ∧ Below w.heap.size w w' := by
  have hr := blk_new (((w.alloc (B3 a 33)).alloc (B3 b 33)).alloc (B3 c 33)) #[.int .i64 0, .int .i64 0, .int .i64 0] 35
  have hp := spts_new3 ((((w.alloc (B3 a 33)).alloc (B3 b 33)).alloc (B3 c 33)).alloc (.cells #[.int .i64 0, .int .i64 0, .int .i64 0] 35)) a b c 33
  rw [size_alloc1, size_alloc1, size_alloc1] at hr
  rw [size_alloc1, size_alloc1, size_alloc1, size_alloc1] at hp
  have HX := Lib.hid (And.intro hr hp); clear hr hp
  have HE := Lib.hid he; clear he
  go_enter Tryz.func16, Tryz.ntmps16
  go_wp2_with fail
  refine (allS_is [a, b, c] 2 HE.out _ 0 _ 3 rfl _ HX.out.2 (by simp)).mono ?_
  rintro e w1 ⟨rfl, hb1⟩
  have hb0 := below_trans (below_trans (below_trans (below3 w _ _ _) (alloc_below _ _)) (alloc_below _ _)) hb1
  have g4 := (HX.out.1.to (alloc_below _ _)).to hb1
  have f0 := g4.free 0
  have f1 := g4.free 1
  have f2 := g4.free 2
  have e0 := g4.c 0 _ rfl
  have e1 := g4.c 1 _ rfl
  have e2 := g4.c 2 _ rfl
  clear HX hb1
  go_wp2_with fail
  have r0 := (g4.set 0 (.int .i64 0)).c 0 _ rfl
  have r1 := ((g4.set 0 (.int .i64 0)).set 1 (.int .i64 0)).c 1 _ rfl
  have r2 := (((g4.set 0 (.int .i64 0)).set 1 (.int .i64 0)).set 2 (.int .i64 0)).c 2 _ rfl
  refine bodyPost_ret (v := .tuple #[.agg #[.int .i64 0, .int .i64 0, .int .i64 0], .int .i64 2]) (by simp [results, Tryz.results16, go_sem, r0, r1, r2]; done) rfl ⟨rfl, ?_⟩
  exact ((hb0.setCell (p := ⟨w.heap.size + 1 + 1 + 1, 0, none⟩) (by show w.heap.size ≤ w.heap.size + 1 + 1 + 1; omega) _).setCell (p := ⟨w.heap.size + 1 + 1 + 1, 1, none⟩) (by show w.heap.size ≤ w.heap.size + 1 + 1 + 1; omega) _).setCell (p := ⟨w.heap.size + 1 + 1 + 1, 2, none⟩) (by show w.heap.size ≤ w.heap.size + 1 + 1 + 1; omega) _

end Go.Proofs.YtgdlfjofefhdoaaGreatDoor

namespace Go.Proofs.YtgdlfjofefhdoaaGreatDoor
open Go.RowKit Go.Sort Go.Lib Mb

theorem eqBeam (d : Nat) (w : World) (a b c x y z : Int) : (Op.equalIn (d + 2) 104 (.agg #[.int .i64 a, .int .i64 b, .int .i64 c]) (.agg #[.int .i64 x, .int .i64 y, .int .i64 z])).run Tryz.prog w = .ok (a == x && (b == y && c == z)) w := by
  refine eqStruct Tryz.underlying104 (by kernel_rfl) ?_
  rw [← Bool.and_true (c == z)]
  refine eqFields_one (by decide) (by go_simp; rfl) (by go_simp; rfl) (by go_simp) ?_
  refine eqFields_one (by decide) (by go_simp; rfl) (by go_simp; rfl) (by go_simp) ?_
  exact eqFields_one (by decide) (by go_simp; rfl) (by go_simp; rfl) (by go_simp) eqFields_none

def pc (k : Nat) (v : P3) : Int := match k with | 0 => v.x | 1 => v.y | _ => v.z
def tot (k : Nat) (v : P3) : Int := match k with | 0 => 0 | 1 => v.x * v.x | 2 => v.x * v.x + v.y * v.y | _ => v.x * v.x + v.y * v.y + v.z * v.z

/-- what the sum of the squares asks of the integers' operations -/
structure PlOps (v : P3) : Prop where
  mul : ∀ k, k < 3 → ∀ w, Good w → Calls Tryz.prog 73 #[S (pc k v), S (pc k v)] w fun e w' => e = .returned (.tuple #[S (pc k v * pc k v), .int .i64 0]) ∧ Below w.heap.size w w'
  add : ∀ k, k < 3 → ∀ w, Good w → Calls Tryz.prog 74 #[S (tot k v), S (pc k v * pc k v)] w fun e w' => e = .returned (.tuple #[S (tot (k + 1) v), .int .i64 0]) ∧ Below w.heap.size w w'
  bd : ∀ k, k < 3 → -9223372036854775808 ≤ pc k v ∧ pc k v ≤ 9223372036854775807

theorem S_zero : S 0 = .string ⟨#[48]⟩ := by
  show Value.string ⟨(itoa 0).toArray⟩ = _
  rw [Mb.itoa_nonneg (by omega), show (0 : Int).natAbs = 0 from rfl, decDigits]; rfl

set_option maxHeartbeats 1600000 in
theorem ToPlane_ok (p a b c : P3) (w : World) (hg : Good w) (hp : highB p = true) (ha : highB a = true) (hb : highB b = true) (hc : highB c = true) (hn : nrm a b c ≠ ⟨0, 0, 0⟩) (hs : PlOps (nrm a b c)) (ho : SqOps (six a b c p) (tot 3 (nrm a b c))) :
    Calls Tryz.prog 22 #[V3 p, V3 a, V3 b, V3 c] w fun e w' => e = .returned (.tuple #[Q (six a b c p) (tot 3 (nrm a b c)), .int .i64 0]) ∧ Below w.heap.size w w' := by
  have hbe : ((nrm a b c).x == 0 && ((nrm a b c).y == 0 && (nrm a b c).z == 0)) = false := by
    rw [Bool.and_eq_false_iff, Bool.and_eq_false_iff, beq_eq_false_iff_ne, beq_eq_false_iff_ne, beq_eq_false_iff_ne]
    generalize nrm a b c = v at hn
    obtain ⟨x, y, z⟩ := v
    simp only [ne_eq, P3.mk.injEq] at hn ⊢
    omega
  have heq := fun w => eqBeam 9998 w (nrm a b c).x (nrm a b c).y (nrm a b c).z 0 0 0
  rw [hbe] at heq
  simp only [Nat.reduceAdd] at heq
  have he : errOf3 [p, a, b, c] = 0 := err3_ok (by simp [ha, hb, hc, hp])
  have hx := bx3_4 w p a b c 33 33 33 33
  have hpt := spts_new4 ((((w.alloc (B3 p 33)).alloc (B3 a 33)).alloc (B3 b 33)).alloc (B3 c 33)) p a b c 33
  rw [size_alloc1, size_alloc1, size_alloc1, size_alloc1] at hpt
  have HX := Lib.hid (And.intro hx hpt); clear hx hpt
  have HE := Lib.hid he; clear he
  have HN := Lib.hid (nrm_bd (bd_high ha) (bd_high hb) (bd_high hc))
  have HA := Lib.hid (And.intro (bd_high hp) (And.intro (bd_high ha) (And.intro (bd_high hb) (bd_high hc)))); clear ha hb hc hp
  go_enter Tryz.func22, Tryz.ntmps22
  go_wp2_with fail
  refine (allS_is [p, a, b, c] 0 HE.out _ 0 _ 4 rfl _ HX.out.2 (by simp)).mono ?_
  rintro e w1 ⟨rfl, hb1⟩
  have hb0 := below_trans (below_trans (below_trans (below3 w _ _ _) (alloc_below _ _)) (alloc_below _ _)) hb1
  have h1 := (HX.out.1.1.to (alloc_below _ _)).to hb1
  have h2 := (HX.out.1.2.1.to (alloc_below _ _)).to hb1
  have h3 := (HX.out.1.2.2.1.to (alloc_below _ _)).to hb1
  have h4 := (HX.out.1.2.2.2.to (alloc_below _ _)).to hb1
  clear HX hb1
  have HH := Lib.hid (And.intro h1 (And.intro h2 (And.intro h3 h4)))
  obtain ⟨c1, c2, c3⟩ := h1
  obtain ⟨c4, c5, c6⟩ := h2
  obtain ⟨c7, c8, c9⟩ := h3
  obtain ⟨c10, c11, c12⟩ := h4
  go_wp2_with fail
  refine (normal_calls a b c _ (HA.out.2.1.mono (by omega)) (HA.out.2.2.1.mono (by omega)) (HA.out.2.2.2.mono (by omega))).mono ?_
  rintro e w2 ⟨rfl, hb2⟩
  have hbn := bx3_new w2 (nrm a b c) 104
  have HB := Lib.hid hbn
  obtain ⟨d1, d2, d3⟩ := hbn
  go_wp2_with fail
  obtain ⟨W, hW⟩ : ∃ W, W = (w2.alloc (B3 (nrm a b c) 104)).alloc (.cells #[.int .i64 (nrm a b c).x, .int .i64 (nrm a b c).y, .int .i64 (nrm a b c).z] 3) := ⟨_, rfl⟩
  rw [← hW]
  have hbW : Below w1.heap.size w1 W := by rw [hW]; exact below_trans (below_trans hb2 (alloc_below _ _)) (alloc_below _ _)
  have hgW : Good W := hg.to (below_trans hb0 hbW)
  have hv : Bx3 W w2.heap.size (nrm a b c) := by rw [hW]; exact HB.out.to (alloc_below _ _)
  have hl : Bx3 W (w2.heap.size + 1) (nrm a b c) := by
    rw [hW]
    have := bx3_new (w2.alloc (B3 (nrm a b c) 104)) (nrm a b c) 3
    rwa [size_alloc1] at this
  have HR := Lib.hid (And.intro (HH.out.1.to hbW) (And.intro (HH.out.2.1.to hbW) (And.intro hv (And.intro hgW (below_trans hb0 hbW)))))
  have HO := Lib.hid (And.intro hs ho)
  have HL := Lib.hid hl
  clear HH HB hb0 hbW hgW hv hl hs ho c1 c2 c3 c4 c5 c6 c7 c8 c9 c10 c11 c12 d1 d2 d3 heq hbe hb2 hn hg
  clear hW
  go_loopg [12, 41] 3 (fun g s i wr => ∃ k : Nat, k + g = 3 ∧ s = S (tot k (nrm a b c)) ∧ i = .int .i64 k ∧ Below W.heap.size W wr)
  case atStart => exact ⟨0, rfl, S_zero.symm, rfl, Below.refl _ _⟩
  case round =>
    obtain ⟨k, hk, rfl, rfl, hbel⟩ := hrel
    by_cases hlt : k < 3
    · have hc : wr.cell? ⟨w2.heap.size + 1, k, none⟩ = some (.int .i64 (pc k (nrm a b c))) := by
        have := HL.out.to hbel
        match k, hlt with
        | 0, _ => exact this.1
        | 1, _ => exact this.2.1
        | 2, _ => exact this.2.2
      have hbd := HO.out.1.bd k hlt
      go_wp2_with fail
      refine (of_calls _ _ (HR.out.2.2.2.1.to hbel) hbd.1 hbd.2).mono ?_
      rintro e v1 ⟨rfl, e1⟩
      have f1 := below_trans hbel e1
      go_wp2_with fail
      refine (of_calls _ _ (HR.out.2.2.2.1.to f1) hbd.1 hbd.2).mono ?_
      rintro e v2 ⟨rfl, e2⟩
      have f2 := below_trans f1 e2
      go_wp2_with fail
      refine (HO.out.1.mul k hlt _ (HR.out.2.2.2.1.to f2)).mono ?_
      rintro e v3 ⟨rfl, e3⟩
      have f3 := below_trans f2 e3
      go_wp2_with fail
      refine (HO.out.1.add k hlt _ (HR.out.2.2.2.1.to f3)).mono ?_
      rintro e v4 ⟨rfl, e4⟩
      have f4 := below_trans f3 e4
      go_wp2_with fail
      go_roundg (gk - 1)
      case measure => omega
      case rel => exact ⟨k + 1, by omega, rfl, by go_num, f4⟩
    · have hk3 : k = 3 := by omega
      subst hk3
      clear hlt hk HL
      have hW := HR.out.2.2.2.2
      obtain ⟨h1, h2, h3, hgW, -⟩ := HR.out
      have hgr := hgW.to hbel
      have hbr := below_trans hW hbel
      clear hW
      have m1 := cell_regrown (h1.to hbel).1
      have m2 := cell_regrown (h1.to hbel).2.1
      have m3 := cell_regrown (h1.to hbel).2.2
      have m4 := cell_regrown (h2.to hbel).1
      have m5 := cell_regrown (h2.to hbel).2.1
      have m6 := cell_regrown (h2.to hbel).2.2
      have m7 := cell_regrown (h3.to hbel).1
      have m8 := cell_regrown (h3.to hbel).2.1
      have m9 := cell_regrown (h3.to hbel).2.2
      have HG := Lib.hid hgr
      have q1 : ∀ d' os, Calls Tryz.prog 70 #[V3 a, V3 p] (grow (redrawn wr d') os) fun e w'' => e = .returned (V3 (sub3 p a)) ∧ ∃ p : Regrown, w'' = grow (redrawn wr p.d) p.os := fun d' os => Calls.regrown_of (reach_calls a p _ (HA.out.2.1.mono (by omega)) (HA.out.1.mono (by omega)))
      have q2 : ∀ d' os, Calls Tryz.prog 69 #[V3 (nrm a b c), V3 (sub3 p a)] (grow (redrawn wr d') os) fun e w'' => e = .returned (.int .i64 (six a b c p)) ∧ ∃ p : Regrown, w'' = grow (redrawn wr p.d) p.os := fun d' os => Calls.regrown_of (bdot_calls _ _ _ _ _ HN.out (HA.out.2.1.sub HA.out.1) (by omega))
      have q3 : ∀ d' os, Calls Tryz.prog 54 #[.int .i64 (six a b c p), S (tot 3 (nrm a b c))] (grow (redrawn wr d') os) fun e w'' => e = .returned (.tuple #[Q (six a b c p) (tot 3 (nrm a b c)), .int .i64 0]) ∧ ∃ p : Regrown, w'' = grow (redrawn wr p.d) p.os := fun d' os => Calls.regrown_of (squared_calls _ _ _ (HG.out.to (below_regrown wr d' os)) HO.out.2)
      clear h1 h2 h3 hgW hgr hbel
      go_wp2_with fail
      refine wp_region_quiet_below follows (by kernel_rfl) ?_
      repeat (quiet_step (first | with_reducible exact q1 _ _ | with_reducible exact q2 _ _ | with_reducible exact q3 _ _))
      refine wpQuiet_nil ?_
      intro _ hw'
      obtain ⟨⟨dq, osq⟩, hw''⟩ := hw'
      subst hw''
      go_wp2_with fail
      go_ret2
      exact ⟨rfl, below_trans hbr (below_regrown wr dq osq)⟩

set_option maxHeartbeats 800000 in
theorem ToPlane_err (p a b c : P3) (w : World) (he : errOf3 [p, a, b, c] = 2) :
    Calls Tryz.prog 22 #[V3 p, V3 a, V3 b, V3 c] w fun e w' => e = .returned (.tuple #[.string ⟨#[]⟩, .int .i64 2]) ∧ Below w.heap.size w w' := by
  have hp := spts_new4 ((((w.alloc (B3 p 33)).alloc (B3 a 33)).alloc (B3 b 33)).alloc (B3 c 33)) p a b c 33
  rw [size_alloc1, size_alloc1, size_alloc1, size_alloc1] at hp
  have HX := Lib.hid hp; clear hp
  have HE := Lib.hid he; clear he
  go_enter Tryz.func22, Tryz.ntmps22
  go_wp2_with fail
  refine (allS_is [p, a, b, c] 2 HE.out _ 0 _ 4 rfl _ HX.out (by simp)).mono ?_
  rintro e w1 ⟨rfl, hb1⟩
  have hb0 := below_trans (below_trans (below_trans (below3 w _ _ _) (alloc_below _ _)) (alloc_below _ _)) hb1
  clear HX hb1
  go_wp2_with fail
  go_ret2
  exact ⟨rfl, hb0⟩

set_option maxHeartbeats 800000 in
theorem ToPlane_flat (p a b c : P3) (w : World) (hp : highB p = true) (ha : highB a = true) (hb : highB b = true) (hc : highB c = true) (hn : nrm a b c = ⟨0, 0, 0⟩) :
    Calls Tryz.prog 22 #[V3 p, V3 a, V3 b, V3 c] w fun e w' => e = .returned (.tuple #[.string ⟨#[]⟩, .int .i64 10]) ∧ Below w.heap.size w w' := by
  have heq := fun w => eqBeam 9998 w (nrm a b c).x (nrm a b c).y (nrm a b c).z 0 0 0
  rw [show ((nrm a b c).x == 0 && ((nrm a b c).y == 0 && (nrm a b c).z == 0)) = true by rw [hn]; rfl] at heq
  simp only [Nat.reduceAdd] at heq
  have he : errOf3 [p, a, b, c] = 0 := err3_ok (by simp [ha, hb, hc, hp])
  have hx := bx3_4 w p a b c 33 33 33 33
  have hpt := spts_new4 ((((w.alloc (B3 p 33)).alloc (B3 a 33)).alloc (B3 b 33)).alloc (B3 c 33)) p a b c 33
  rw [size_alloc1, size_alloc1, size_alloc1, size_alloc1] at hpt
  have HX := Lib.hid (And.intro hx hpt); clear hx hpt
  have HE := Lib.hid he; clear he
  have HA := Lib.hid (And.intro (bd_high hp) (And.intro (bd_high ha) (And.intro (bd_high hb) (bd_high hc)))); clear ha hb hc hp
  clear hn
  go_enter Tryz.func22, Tryz.ntmps22
  go_wp2_with fail
  refine (allS_is [p, a, b, c] 0 HE.out _ 0 _ 4 rfl _ HX.out.2 (by simp)).mono ?_
  rintro e w1 ⟨rfl, hb1⟩
  have hb0 := below_trans (below_trans (below_trans (below3 w _ _ _) (alloc_below _ _)) (alloc_below _ _)) hb1
  have h2 := (HX.out.1.2.1.to (alloc_below _ _)).to hb1
  have h3 := (HX.out.1.2.2.1.to (alloc_below _ _)).to hb1
  have h4 := (HX.out.1.2.2.2.to (alloc_below _ _)).to hb1
  clear HX hb1
  obtain ⟨c4, c5, c6⟩ := h2
  obtain ⟨c7, c8, c9⟩ := h3
  obtain ⟨c10, c11, c12⟩ := h4
  go_wp2_with fail
  refine (normal_calls a b c _ (HA.out.2.1.mono (by omega)) (HA.out.2.2.1.mono (by omega)) (HA.out.2.2.2.mono (by omega))).mono ?_
  rintro e w2 ⟨rfl, hb2⟩
  have hbn := bx3_new w2 (nrm a b c) 104
  obtain ⟨d1, d2, d3⟩ := hbn
  have hb3 := below_trans (below_trans hb0 hb2) (alloc_below w2 (B3 (nrm a b c) 104))
  go_wp2_with fail
  go_ret2
  exact ⟨rfl, hb3⟩

end Go.Proofs.YtgdlfjofefhdoaaGreatDoor
