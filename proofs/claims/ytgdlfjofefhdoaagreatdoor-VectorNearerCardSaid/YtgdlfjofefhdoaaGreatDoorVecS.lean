/- Package vector: points in space: high, all, reach, dot, turn, normal. -/
import Derived.Test.YtgdlfjofefhdoaaGreatDoorVecD
import Derived.Deep.RegionHeld3
namespace Go.Proofs.YtgdlfjofefhdoaaGreatDoor
open Go.RowKit Go.Sort Go.Lib Mb

abbrev V3 (p : P3) : Value := .agg #[.int .i64 p.x, .int .i64 p.y, .int .i64 p.z]
abbrev B3 (p : P3) (t : TypeId) : Obj := .cells #[.int .i64 p.x, .int .i64 p.y, .int .i64 p.z] t
def highB (p : P3) : Bool := inB p.x && (inB p.y && inB p.z)

theorem high_calls (p : P3) (w : World) :
    Calls Tryz.prog 65 #[V3 p] w fun e w' => e = .returned (.bool (highB p)) ∧ Below w.heap.size w w' := by
  obtain ⟨x, y, z⟩ := p
  cases h1 : inB x with
  | true =>
    cases h2 : inB y with
    | true =>
      go_enter Tryz.func65, Tryz.ntmps65
      go_wp2_with (go_at_call 106; refine (within_calls _ _).mono ?_; rintro e w' ⟨rfl, rfl⟩)
      go_ret
      exact ⟨ret_b (by simp [highB, h1, h2]), alloc_below _ _⟩
    | false =>
      go_enter Tryz.func65, Tryz.ntmps65
      go_wp2_with (go_at_call 106; refine (within_calls _ _).mono ?_; rintro e w' ⟨rfl, rfl⟩)
      go_ret
      exact ⟨ret_b (by simp [highB, h1, h2]), alloc_below _ _⟩
  | false =>
    go_enter Tryz.func65, Tryz.ntmps65
    go_wp2_with (go_at_call 106; refine (within_calls _ _).mono ?_; rintro e w' ⟨rfl, rfl⟩)
    go_ret
    exact ⟨ret_b (by simp [highB, h1]), alloc_below _ _⟩

/-- cells that hold points in space -/
def Spts (w : World) (b o : Nat) (l : List P3) : Prop := b < w.heap.size ∧ ∀ i (h : i < l.length), w.cell? ⟨b, o + i * 3, none⟩ = some (.int .i64 l[i].x) ∧ w.cell? ⟨b, o + i * 3 + 1, none⟩ = some (.int .i64 l[i].y) ∧ w.cell? ⟨b, o + i * 3 + 2, none⟩ = some (.int .i64 l[i].z)
theorem Spts.to {w w' : World} {b o : Nat} {l : List P3} (h : Spts w b o l) (hb : Below w.heap.size w w') : Spts w' b o l :=
  ⟨Nat.lt_of_lt_of_le h.1 hb.size, fun i hi => ⟨(hb.cell (p := ⟨b, _, none⟩) h.1).trans (h.2 i hi).1, (hb.cell (p := ⟨b, _, none⟩) h.1).trans (h.2 i hi).2.1, (hb.cell (p := ⟨b, _, none⟩) h.1).trans (h.2 i hi).2.2⟩⟩

def errOf3 (l : List P3) : Int := if l.all highB then 0 else 2

set_option maxHeartbeats 800000 in
theorem allS_calls (l : List P3) (b o cap : Nat) (w : World) (hT : Spts w b o l) (hn : l.length ≤ 1000000) :
    Calls Tryz.prog 64 #[.func (.func 65) #[] #[], .slice (some ⟨b, o, none⟩) l.length cap] w fun e w' => e = .returned (.int .i64 (errOf3 l)) ∧ Below w.heap.size w w' := by
  go_enter Tryz.func64, Tryz.ntmps64
  go_wp2
  go_loopg [9] l.length (fun g i wr => ∃ k : Nat, k + g = l.length ∧ i = .int .i64 k ∧ Below w.heap.size w wr ∧ errOf3 (l.drop k) = errOf3 l)
  case atStart => exact ⟨0, Nat.zero_add _, rfl, Below.refl _ _, by rw [List.drop_zero]⟩
  case round =>
    obtain ⟨k, hk, rfl, hbel, herr⟩ := hrel
    have HE := Lib.hid herr; clear herr
    by_cases hlt : k < l.length
    · have hp := (hT.to hbel).2 k hlt
      obtain ⟨p, hpp⟩ : ∃ p, l[k] = p := ⟨_, rfl⟩
      rw [hpp] at hp
      obtain ⟨c1, c2, c3⟩ := hp
      have HP := Lib.hid hpp; clear hpp
      cases hf : highB p with
      | true =>
        have HF := Lib.hid hf
        go_wp2_with fail
        refine (high_calls p _).mono ?_
        rintro e w1 ⟨rfl, hb1⟩
        go_wp2_with fail
        go_roundg (gk - 1)
        case measure => omega
        case rel =>
          refine ⟨k + 1, by omega, by go_num, hbel.trans ((below_trans (alloc_below _ _) hb1).mono hbel.size), ?_⟩
          rw [← HE.out, List.drop_eq_getElem_cons hlt, HP.out]
          simp [errOf3, HF.out]
      | false =>
        have HF := Lib.hid hf
        go_wp2_with fail
        refine (high_calls p _).mono ?_
        rintro e w1 ⟨rfl, hb1⟩
        go_wp2_with fail
        go_ret
        refine ⟨ret_i ?_, hbel.trans ((below_trans (alloc_below _ _) hb1).mono hbel.size)⟩
        rw [← HE.out, List.drop_eq_getElem_cons hlt, HP.out]
        simp [errOf3, HF.out]
    · go_wp2
      go_ret
      refine ⟨ret_i ?_, hbel⟩
      rw [← HE.out, List.drop_eq_nil_of_le (by omega)]; rfl

theorem allS_is (l : List P3) (k : Int) (hk : errOf3 l = k) (b o cap n : Nat) (hl : l.length = n) (w : World) (hT : Spts w b o l) (hn : l.length ≤ 1000000) :
    Calls Tryz.prog 64 #[.func (.func 65) #[] #[], .slice (some ⟨b, o, none⟩) n cap] w fun e w' => e = .returned (.int .i64 k) ∧ Below w.heap.size w w' := by
  subst hl; subst hk; exact allS_calls l b o cap w hT hn

theorem err3_ok {l : List P3} (h : ∀ p ∈ l, highB p = true) : errOf3 l = 0 := by
  unfold errOf3; rw [if_pos (by simpa using h)]

/-- coordinates of at most this magnitude -/
def Bd3 (M : Int) (p : P3) : Prop := (-M ≤ p.x ∧ p.x ≤ M) ∧ (-M ≤ p.y ∧ p.y ≤ M) ∧ -M ≤ p.z ∧ p.z ≤ M
theorem Bd3.mono {M N : Int} {p : P3} (h : Bd3 M p) (hm : M ≤ N) : Bd3 N p := ⟨by have := h.1; omega, by have := h.2.1; omega, by have := h.2.2; omega⟩
theorem bd_high {p : P3} (h : highB p = true) : Bd3 100000 p := by
  simp only [highB, Bool.and_eq_true] at h
  exact ⟨inB_t h.1, inB_t h.2.1, inB_t h.2.2⟩
theorem Bd3.sub {M N : Int} {a b : P3} (ha : Bd3 M a) (hb : Bd3 N b) : Bd3 (M + N) (sub3 b a) := by
  obtain ⟨⟨_, _⟩, ⟨_, _⟩, _, _⟩ := ha; obtain ⟨⟨_, _⟩, ⟨_, _⟩, _, _⟩ := hb
  exact ⟨⟨by show _ ≤ b.x - a.x; omega, by show b.x - a.x ≤ _; omega⟩, ⟨by show _ ≤ b.y - a.y; omega, by show b.y - a.y ≤ _; omega⟩, by show _ ≤ b.z - a.z; omega, by show b.z - a.z ≤ _; omega⟩

set_option maxHeartbeats 400000 in
theorem reach_calls (a b : P3) (w : World) (ha : Bd3 1000000 a) (hb : Bd3 1000000 b) :
    Calls Tryz.prog 70 #[V3 a, V3 b] w fun e w' => e = .returned (V3 (sub3 b a)) ∧ Below w.heap.size w w' := by
  obtain ⟨⟨a1, a2⟩, ⟨a3, a4⟩, a5, a6⟩ := ha
  obtain ⟨⟨b1, b2⟩, ⟨b3, b4⟩, b5, b6⟩ := hb
  obtain ⟨ax, ay, az⟩ := a
  obtain ⟨bx, by', bz⟩ := b
  simp only at a1 a2 a3 a4 a5 a6 b1 b2 b3 b4 b5 b6
  go_enter Tryz.func70, Tryz.ntmps70
  go_wp2
  exact bodyPost_ret (v := .agg #[.int .i64 (bx - ax), .int .i64 (by' - ay), .int .i64 (bz - az)]) (by simp [results, Tryz.results70, go_sem]) rfl ⟨rfl, below3 _ _ _ _⟩

set_option maxHeartbeats 800000 in
theorem bdot_calls (a b : P3) (M N : Int) (w : World) (ha : Bd3 M a) (hb : Bd3 N b) (hMN : M * N ≤ 2000000000000000000) :
    Calls Tryz.prog 69 #[V3 a, V3 b] w fun e w' => e = .returned (.int .i64 (dt3 a b)) ∧ Below w.heap.size w w' := by
  have h1 := Mb.mul_bd ha.1 hb.1
  have h2 := Mb.mul_bd ha.2.1 hb.2.1
  have h3 := Mb.mul_bd ha.2.2 hb.2.2
  obtain ⟨l1, u1⟩ : -2000000000000000000 ≤ a.x * b.x ∧ a.x * b.x ≤ 2000000000000000000 := by omega
  obtain ⟨l2, u2⟩ : -2000000000000000000 ≤ a.y * b.y ∧ a.y * b.y ≤ 2000000000000000000 := by omega
  obtain ⟨l3, u3⟩ : -2000000000000000000 ≤ a.z * b.z ∧ a.z * b.z ≤ 2000000000000000000 := by omega
  clear ha hb h1 h2 h3 hMN
  obtain ⟨ax, ay, az⟩ := a
  obtain ⟨bx, by', bz⟩ := b
  simp only at l1 u1 l2 u2 l3 u3
  go_enter Tryz.func69, Tryz.ntmps69
  go_wp2
  go_ret
  exact ⟨rfl, below2 _ _ _⟩

set_option maxHeartbeats 800000 in
theorem bturn_calls (a b : P3) (w : World) (ha : Bd3 1000000000 a) (hb : Bd3 1000000000 b) :
    Calls Tryz.prog 115 #[V3 a, V3 b] w fun e w' => e = .returned (V3 (vec a b)) ∧ Below w.heap.size w w' := by
  obtain ⟨l1, u1⟩ := Mb.mul_bd ha.2.1 hb.2.2
  obtain ⟨l2, u2⟩ := Mb.mul_bd ha.2.2 hb.2.1
  obtain ⟨l3, u3⟩ := Mb.mul_bd ha.2.2 hb.1
  obtain ⟨l4, u4⟩ := Mb.mul_bd ha.1 hb.2.2
  obtain ⟨l5, u5⟩ := Mb.mul_bd ha.1 hb.2.1
  obtain ⟨l6, u6⟩ := Mb.mul_bd ha.2.1 hb.1
  clear ha hb
  obtain ⟨ax, ay, az⟩ := a
  obtain ⟨bx, by', bz⟩ := b
  simp only at l1 u1 l2 u2 l3 u3 l4 u4 l5 u5 l6 u6
  go_enter Tryz.func115, Tryz.ntmps115
  go_wp2
  exact bodyPost_ret (v := .agg #[.int .i64 (ay * bz - az * by'), .int .i64 (az * bx - ax * bz), .int .i64 (ax * by' - ay * bx)]) (by simp [results, Tryz.results115, go_sem]) rfl ⟨rfl, below3 _ _ _ _⟩

/-- a block that holds one point in space -/
def Bx3 (w : World) (b : Nat) (p : P3) : Prop := w.cell? ⟨b, 0, none⟩ = some (.int .i64 p.x) ∧ w.cell? ⟨b, 1, none⟩ = some (.int .i64 p.y) ∧ w.cell? ⟨b, 2, none⟩ = some (.int .i64 p.z)
theorem Bx3.to {w w' : World} {b : Nat} {p : P3} (h : Bx3 w b p) (hb : Below w.heap.size w w') : Bx3 w' b p := ⟨cell_to h.1 hb, cell_to h.2.1 hb, cell_to h.2.2 hb⟩
theorem Bx3.lt {w : World} {b : Nat} {p : P3} (h : Bx3 w b p) : b < w.heap.size := World.block_lt_of_cell? _ _ h.1
theorem bx3_new (w : World) (p : P3) (t : TypeId) : Bx3 (w.alloc (B3 p t)) w.heap.size p := ⟨cell_new _ _ _ _ _ rfl, cell_new _ _ _ _ _ rfl, cell_new _ _ _ _ _ rfl⟩
theorem bx3_2 (w : World) (a b : P3) (t u : TypeId) : Bx3 ((w.alloc (B3 a t)).alloc (B3 b u)) w.heap.size a ∧ Bx3 ((w.alloc (B3 a t)).alloc (B3 b u)) (w.heap.size + 1) b :=
  ⟨(bx3_new _ _ _).to (alloc_below _ _), by have := bx3_new (w.alloc (B3 a t)) b u; rwa [size_alloc1] at this⟩
theorem bx3_3 (w : World) (a b c : P3) (t u v : TypeId) : Bx3 (((w.alloc (B3 a t)).alloc (B3 b u)).alloc (B3 c v)) w.heap.size a ∧ Bx3 (((w.alloc (B3 a t)).alloc (B3 b u)).alloc (B3 c v)) (w.heap.size + 1) b ∧ Bx3 (((w.alloc (B3 a t)).alloc (B3 b u)).alloc (B3 c v)) (w.heap.size + 2) c :=
  ⟨(bx3_2 w a b t u).1.to (alloc_below _ _), (bx3_2 w a b t u).2.to (alloc_below _ _), by have := bx3_new ((w.alloc (B3 a t)).alloc (B3 b u)) c v; rwa [size_alloc1, size_alloc1] at this⟩

end Go.Proofs.YtgdlfjofefhdoaaGreatDoor
