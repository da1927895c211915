/- The walk of VectorNormals: it answers true. -/
import Derived.Test.YtocackggamifnaaGreatDoorNear
namespace Go.Proofs.YtocackggamifnaaGreatDoor
open Go.RowKit Go.Sort Go.Lib Mb

def nearB3 (p : P3) : Bool := nearI p.x && nearI p.y && nearI p.z

theorem keep3 {w : World} {i : Nat} {a : P3} (g1 : Bx3 w i a) :
    w.cell? ⟨i, 0, none⟩ = some (.int .i64 a.x) ∧ w.cell? ⟨i, 1, none⟩ = some (.int .i64 a.y) ∧ w.cell? ⟨i, 2, none⟩ = some (.int .i64 a.z) := g1

set_option maxHeartbeats 1600000 in
theorem normals1_calls (p : P3) (w : World) :
    Calls Tryz.prog 29 #[V3 p] w fun e w' => e = .returned (.bool (!nearB3 p)) ∧ Below w.heap.size w w' := by
  have hf : (!nearB ⟨p.x, p.y⟩ || !nearB ⟨p.z, 0⟩) = !nearB3 p := by
    simp [nearB, nearB3, nearI, Bool.and_assoc, Bool.or_assoc]
  have HF := Lib.hid hf; clear hf
  go_enter Tryz.func29, Tryz.ntmps29
  go_wp2_with fail
  obtain ⟨W, hW⟩ : ∃ W, W = w.alloc (B3 p 33) := ⟨_, rfl⟩
  rw [← hW]
  have hbel : Below w.heap.size w W := by rw [hW]; exact alloc_below _ _
  have g1 : Bx3 W w.heap.size p := by rw [hW]; exact bx3_new _ _ _
  clear hW
  have B0 : Below W.heap.size W W.drew := (Below.refl _ _).drew
  go_region_held3 (fun w' => w'.cell? ⟨w.heap.size, 0, none⟩ = some (.int .i64 p.x) ∧ w'.cell? ⟨w.heap.size, 1, none⟩ = some (.int .i64 p.y) ∧ w'.cell? ⟨w.heap.size, 2, none⟩ = some (.int .i64 p.z))
    (first | exact keep3 (g1.to B0) | exact keep3 (g1.to B1) | exact keep3 (g1.to B2) | exact keep3 (g1.to (below_trans B2 (alloc_below _ _))) | exact keep3 (g1.to B3))
    (first | (go_at_call 31; (with_reducible refine (at_calls p.x p.y _).mono ?_); rintro e w1 ⟨rfl, hb1⟩; have B1 := below_trans B0 hb1) | (go_at_call 31; (with_reducible refine (at_calls p.z 0 _).mono ?_); rintro e w2 ⟨rfl, hb2⟩; have B2 := below_trans B1 hb2) | (go_at_call 30; refine (near_calls [(⟨p.x, p.y⟩ : P2), ⟨p.z, 0⟩] _ 0 2 2 rfl _ (pts_new2 w2 ⟨p.x, p.y⟩ ⟨p.z, 0⟩ 23) (by simp)).mono ?_; rintro e w3 ⟨rfl, hb3⟩; have B3 := below_trans (below_trans B2 (alloc_below _ _)) hb3))
  have hB := hbel.trans (B3.mono hbel.size)
  go_wp2_with fail
  go_ret
  exact ⟨ret_b HF.out, hB⟩

theorem nearI_bd {n : Int} (h : nearI n = true) : -9000 ≤ n ∧ n ≤ 9000 := by simpa [nearI] using h
theorem near3_bd {p : P3} (h : nearB3 p = true) : Bd3 9000 p := by
  simp only [nearB3, Bool.and_eq_true] at h
  exact ⟨nearI_bd h.1.1, nearI_bd h.1.2, nearI_bd h.2⟩
theorem high_of_bd {p : P3} (h : Bd3 9000 p) : highB p = true := by
  obtain ⟨⟨_, _⟩, ⟨_, _⟩, _, _⟩ := h
  simp only [highB, inB, Bool.and_eq_true, decide_eq_true_eq]
  omega

theorem nrm_bd9 {a b c : P3} (ha : Bd3 9000 a) (hb : Bd3 9000 b) (hc : Bd3 9000 c) : Bd3 648000000 (nrm a b c) := by
  have h1 := ha.sub hb
  have h2 := ha.sub hc
  simp only [nrm, vec]
  generalize sub3 b a = u at *
  generalize sub3 c a = v at *
  obtain ⟨l1, u1⟩ := Mb.mul_bd h1.2.1 h2.2.2
  obtain ⟨l2, u2⟩ := Mb.mul_bd h1.2.2 h2.2.1
  obtain ⟨l3, u3⟩ := Mb.mul_bd h1.2.2 h2.1
  obtain ⟨l4, u4⟩ := Mb.mul_bd h1.1 h2.2.2
  obtain ⟨l5, u5⟩ := Mb.mul_bd h1.1 h2.2.1
  obtain ⟨l6, u6⟩ := Mb.mul_bd h1.2.1 h2.1
  refine ⟨⟨?_, ?_⟩, ⟨?_, ?_⟩, ?_, ?_⟩ <;> simp only [] <;> omega

theorem six_bd {a b c d : P3} (ha : Bd3 9000 a) (hb : Bd3 9000 b) (hc : Bd3 9000 c) (hd : Bd3 9000 d) : -1000000000000000000 ≤ six a b c d ∧ six a b c d ≤ 1000000000000000000 := by
  have h := nrm_bd9 ha hb hc
  have k := ha.sub hd
  have m1 := Mb.mul_bd h.1 k.1
  have m2 := Mb.mul_bd h.2.1 k.2.1
  have m3 := Mb.mul_bd h.2.2 k.2.2
  unfold six dt3
  omega

theorem four_of {zs : List Int} (h : zs.length = 12) : ∃ a b c d : P3, (zs.map (Value.int .i64)).toArray = #[.int .i64 a.x, .int .i64 a.y, .int .i64 a.z, .int .i64 b.x, .int .i64 b.y, .int .i64 b.z, .int .i64 c.x, .int .i64 c.y, .int .i64 c.z, .int .i64 d.x, .int .i64 d.y, .int .i64 d.z] := by
  match zs, h with
  | [x0, x1, x2, x3, x4, x5, x6, x7, x8, x9, x10, x11], _ => exact ⟨⟨x0, x1, x2⟩, ⟨x3, x4, x5⟩, ⟨x6, x7, x8⟩, ⟨x9, x10, x11⟩, rfl⟩

theorem nrm_square1 (a b c : P3) : dt3 (nrm a b c) (sub3 b a) = 0 := by simp only [nrm, dt3, vec, sub3]; grind
theorem nrm_square2 (a b c : P3) : dt3 (nrm a b c) (sub3 c a) = 0 := by simp only [nrm, dt3, vec, sub3]; grind

abbrev V34 (a b c d : P3) : Array Value := #[.int .i64 a.x, .int .i64 a.y, .int .i64 a.z, .int .i64 b.x, .int .i64 b.y, .int .i64 b.z, .int .i64 c.x, .int .i64 c.y, .int .i64 c.z, .int .i64 d.x, .int .i64 d.y, .int .i64 d.z]

/-- an array of four points in a block -/
structure Four (w : World) (A : Nat) (a b c d : P3) : Prop where
  all : Spts w A 0 [a, b, c, d]
  mid : Spts w A 3 [b, c]
  c0 : w.cell? ⟨A, 0, none⟩ = some (.int .i64 a.x)
  c1 : w.cell? ⟨A, 1, none⟩ = some (.int .i64 a.y)
  c2 : w.cell? ⟨A, 2, none⟩ = some (.int .i64 a.z)
  c3 : w.cell? ⟨A, 3, none⟩ = some (.int .i64 b.x)
  c4 : w.cell? ⟨A, 4, none⟩ = some (.int .i64 b.y)
  c5 : w.cell? ⟨A, 5, none⟩ = some (.int .i64 b.z)
  c6 : w.cell? ⟨A, 6, none⟩ = some (.int .i64 c.x)
  c7 : w.cell? ⟨A, 7, none⟩ = some (.int .i64 c.y)
  c8 : w.cell? ⟨A, 8, none⟩ = some (.int .i64 c.z)
  c9 : w.cell? ⟨A, 9, none⟩ = some (.int .i64 d.x)
  c10 : w.cell? ⟨A, 10, none⟩ = some (.int .i64 d.y)
  c11 : w.cell? ⟨A, 11, none⟩ = some (.int .i64 d.z)

theorem Four.to {w w' : World} {A : Nat} {a b c d : P3} (h : Four w A a b c d) (hb : Below w.heap.size w w') : Four w' A a b c d :=
  ⟨h.all.to hb, h.mid.to hb, cell_to h.c0 hb, cell_to h.c1 hb, cell_to h.c2 hb, cell_to h.c3 hb, cell_to h.c4 hb, cell_to h.c5 hb, cell_to h.c6 hb, cell_to h.c7 hb, cell_to h.c8 hb, cell_to h.c9 hb, cell_to h.c10 hb, cell_to h.c11 hb⟩

theorem four_new (w : World) (a b c d : P3) (t : TypeId) : Four (w.alloc (.cells (V34 a b c d) t)) w.heap.size a b c d := by
  refine ⟨spts_new4 _ _ _ _ _ _, ⟨by simp, fun i h => ?_⟩, cell_new _ _ _ _ _ rfl, cell_new _ _ _ _ _ rfl, cell_new _ _ _ _ _ rfl, cell_new _ _ _ _ _ rfl, cell_new _ _ _ _ _ rfl, cell_new _ _ _ _ _ rfl, cell_new _ _ _ _ _ rfl, cell_new _ _ _ _ _ rfl, cell_new _ _ _ _ _ rfl, cell_new _ _ _ _ _ rfl, cell_new _ _ _ _ _ rfl, cell_new _ _ _ _ _ rfl⟩
  match i, h with
  | 0, _ => exact ⟨cell_new _ _ _ _ _ rfl, cell_new _ _ _ _ _ rfl, cell_new _ _ _ _ _ rfl⟩
  | 1, _ => exact ⟨cell_new _ _ _ _ _ rfl, cell_new _ _ _ _ _ rfl, cell_new _ _ _ _ _ rfl⟩

set_option maxHeartbeats 3200000 in
theorem normals_far (a b c d : P3) (w : World) (hg : Good w) (hn : [a, b, c, d].any (fun p => !nearB3 p) = true) :
    Calls Tryz.prog 5 #[.agg (V34 a b c d)] w fun e w' => e = .returned (.bool true) ∧ Below w.heap.size w w' := by
  have h4 := four_new w a b c d 34
  have hb0 := alloc_below w (.cells (V34 a b c d) 34)
  have H := containsS_calls 29 (fun p => !nearB3 p) [a, b, c, d] w.heap.size 0 4 _ h4.all (by simp) (enters_of Tryz.func29 (by kernel_rfl) rfl) (fun p w' _ => normals1_calls p w')
  rw [hn] at H
  clear h4
  have HG := Lib.hid (And.intro hg hb0); clear hg hb0 hn
  go_enter Tryz.func5, Tryz.ntmps5
  go_wp2_with fail
  refine H.mono ?_
  rintro e w1 ⟨rfl, hb1⟩
  clear H
  have hb2 := below_trans HG.out.2 hb1
  go_wp2_with fail
  refine (awake_calls _ (HG.out.1.to hb2)).mono ?_
  rintro e w2 ⟨rfl, hb3⟩
  go_wp2_with fail
  go_ret
  exact ⟨rfl, below_trans hb2 hb3⟩

set_option maxHeartbeats 3200000 in
theorem normals_near (a b c d : P3) (w : World) (hg : Good w) (hn : [a, b, c, d].any (fun p => !nearB3 p) = false) :
    Calls Tryz.prog 5 #[.agg (V34 a b c d)] w fun e w' => e = .returned (.bool true) ∧ Below w.heap.size w w' := by
  have h4 := four_new w a b c d 34
  have hb0 := alloc_below w (.cells (V34 a b c d) 34)
  have H := containsS_calls 29 (fun p => !nearB3 p) [a, b, c, d] w.heap.size 0 4 _ h4.all (by simp) (enters_of Tryz.func29 (by kernel_rfl) rfl) (fun p w' _ => normals1_calls p w')
  rw [hn] at H
  have HD : Hid (Bd3 9000 a ∧ Bd3 9000 b ∧ Bd3 9000 c ∧ Bd3 9000 d) := by
    simp at hn
    exact Lib.hid ⟨near3_bd hn.1, near3_bd hn.2.1, near3_bd hn.2.2.1, near3_bd hn.2.2.2⟩
  have HI : Hid (highB a = true ∧ highB b = true ∧ highB c = true ∧ highB d = true) := Lib.hid ⟨high_of_bd HD.out.1, high_of_bd HD.out.2.1, high_of_bd HD.out.2.2.1, high_of_bd HD.out.2.2.2⟩
  have HG := Lib.hid (And.intro hg (And.intro hb0 h4)); clear hg hb0 hn h4
  go_enter Tryz.func5, Tryz.ntmps5
  go_wp2_with fail
  refine H.mono ?_
  rintro e w1 ⟨rfl, hb1⟩
  clear H
  have hb2 := below_trans HG.out.2.1 hb1
  have hf := HG.out.2.2.to hb1
  have HF := Lib.hid hf
  obtain ⟨-, -, c0, c1, c2, c3, c4, c5, c6, c7, c8, c9, c10, c11⟩ := hf
  clear hb1
  go_wp2_with fail
  refine (Normal_ok a b c _ HI.out.1 HI.out.2.1 HI.out.2.2.1).mono ?_
  rintro e w2 ⟨rfl, hb1⟩
  clear c0 c1 c2 c3 c4 c5 c6 c7 c8 c9 c10 c11
  have hbn := bx3_new w2 (nrm a b c) 35
  have hb3 := below_trans hb1 (alloc_below w2 (B3 (nrm a b c) 35))
  have hf := HF.out.to hb3
  obtain ⟨-, -, c0, c1, c2, c3, c4, c5, c6, c7, c8, c9, c10, c11⟩ := hf
  have HB := Lib.hid hbn; clear hbn hb1
  have hb4 := below_trans hb2 hb3
  go_wp2_with fail
  obtain ⟨W, hW⟩ : ∃ W, W = w2.alloc (B3 (nrm a b c) 35) := ⟨_, rfl⟩
  rw [← hW] at hb3 hb4 HB ⊢
  have HW := Lib.hid (And.intro hb4 (And.intro (HF.out.to hb3) HB.out))
  have HN := Lib.hid (nrm_bd9 HD.out.1 HD.out.2.1 HD.out.2.2.1)
  clear c0 c1 c2 c3 c4 c5 c6 c7 c8 c9 c10 c11 hb4 hb3 HB HF hW hb2
  go_loopg [28] 2 (fun g i wr => ∃ k : Nat, k + g = 2 ∧ i = .int .i64 k ∧ Below W.heap.size W wr)
  case atStart => exact ⟨0, rfl, rfl, Below.refl _ _⟩
  case round =>
    obtain ⟨k, hk, rfl, hbel⟩ := hrel
    by_cases hlt : k < 2
    · obtain ⟨p, hp, hp0, hpb⟩ : ∃ p : P3, [b, c][k]'(by simpa using hlt) = p ∧ dt3 (nrm a b c) (sub3 p a) = 0 ∧ Bd3 9000 p := by
        match k, hlt with
        | 0, _ => exact ⟨b, rfl, nrm_square1 a b c, HD.out.2.1⟩
        | 1, _ => exact ⟨c, rfl, nrm_square2 a b c, HD.out.2.2.1⟩
      have hc := (HW.out.2.1.mid.to hbel).2 k (by simpa using hlt)
      rw [hp] at hc
      obtain ⟨d1, d2, d3⟩ := hc
      have hbp := below_trans hbel (alloc_below wr (B3 p 33))
      have hf := HW.out.2.1.to hbp
      have c0 := hf.c0
      have c1 := hf.c1
      have c2 := hf.c2
      obtain ⟨n0, n1, n2⟩ := HW.out.2.2.to hbp
      clear hf
      have hs := HD.out.1.sub hpb
      have m1 := Mb.mul_bd HN.out.1 hs.1
      have m2 := Mb.mul_bd HN.out.2.1 hs.2.1
      have m3 := Mb.mul_bd HN.out.2.2 hs.2.2
      obtain ⟨l1, u1⟩ : -2000000000000000000 ≤ (nrm a b c).x * (p.x - a.x) ∧ (nrm a b c).x * (p.x - a.x) ≤ 2000000000000000000 := by have : (sub3 p a).x = p.x - a.x := rfl; rw [this] at m1; omega
      obtain ⟨l2, u2⟩ : -2000000000000000000 ≤ (nrm a b c).y * (p.y - a.y) ∧ (nrm a b c).y * (p.y - a.y) ≤ 2000000000000000000 := by have : (sub3 p a).y = p.y - a.y := rfl; rw [this] at m2; omega
      obtain ⟨l3, u3⟩ : -2000000000000000000 ≤ (nrm a b c).z * (p.z - a.z) ∧ (nrm a b c).z * (p.z - a.z) ≤ 2000000000000000000 := by have : (sub3 p a).z = p.z - a.z := rfl; rw [this] at m3; omega
      obtain ⟨a1, a2⟩ := HD.out.1.1
      obtain ⟨a3, a4⟩ := HD.out.1.2.1
      obtain ⟨a5, a6⟩ := HD.out.1.2.2
      obtain ⟨p1, p2⟩ := hpb.1
      obtain ⟨p3, p4⟩ := hpb.2.1
      obtain ⟨p5, p6⟩ := hpb.2.2
      have hz : (nrm a b c).x * (p.x - a.x) + (nrm a b c).y * (p.y - a.y) + (nrm a b c).z * (p.z - a.z) = 0 := hp0
      clear m1 m2 m3 hs hpb hp0 hp
      have hq := bx3_new wr p 33
      obtain ⟨q0, q1, q2⟩ := hq
      go_wp2_with fail
      go_roundg (gk - 1)
      case measure => omega
      case rel => exact ⟨k + 1, by omega, by go_num, hbp⟩
    · have hk2 : k = 2 := by omega
      subst hk2
      clear hlt hk
      have hb5 := below_trans HW.out.1 hbel
      have hf := HW.out.2.1.to hbel
      have HF := Lib.hid hf
      obtain ⟨-, -, c0, c1, c2, c3, c4, c5, c6, c7, c8, c9, c10, c11⟩ := hf
      go_wp2_with fail
      refine (Volume_ok a b c d _ HI.out.1 HI.out.2.1 HI.out.2.2.1 HI.out.2.2.2).mono ?_
      rintro e v1 ⟨rfl, e1⟩
      clear c0 c1 c2 c3 c4 c5 c6 c7 c8 c9 c10 c11
      have hf := HF.out.to e1
      clear HF
      have HF := Lib.hid hf
      have hb6 := below_trans hb5 e1
      obtain ⟨-, -, c0, c1, c2, c3, c4, c5, c6, c7, c8, c9, c10, c11⟩ := hf
      go_wp2_with fail
      refine (Volume_ok b a c d _ HI.out.2.1 HI.out.1 HI.out.2.2.1 HI.out.2.2.2).mono ?_
      rintro e v2 ⟨rfl, e2⟩
      clear c0 c1 c2 c3 c4 c5 c6 c7 c8 c9 c10 c11
      have hf := HF.out.to e2
      clear HF
      have HF := Lib.hid hf
      have hb7 := below_trans hb6 e2
      obtain ⟨-, -, c0, c1, c2, c3, c4, c5, c6, c7, c8, c9, c10, c11⟩ := hf
      go_wp2_with fail
      refine (Volume_ok b c d a _ HI.out.2.1 HI.out.2.2.1 HI.out.2.2.2 HI.out.1).mono ?_
      rintro e v3 ⟨rfl, e3⟩
      clear c0 c1 c2 c3 c4 c5 c6 c7 c8 c9 c10 c11
      have hb8 := below_trans hb7 e3
      rw [six_perm1 a b c d, six_rot a b c d]
      have hbd := six_bd HD.out.1 HD.out.2.1 HD.out.2.2.1 HD.out.2.2.2
      obtain ⟨s, hs⟩ : ∃ s, six a b c d = s := ⟨_, rfl⟩
      rw [hs] at hbd ⊢
      obtain ⟨s1, s2⟩ := hbd
      clear hs hb5 hb6 hb7 e1 e2 e3 hbel HF
      go_wp2_with fail
      refine (awake_calls _ (HG.out.1.to hb8)).mono ?_
      rintro e w5 ⟨rfl, hb9⟩
      go_wp2_with fail
      go_ret
      exact ⟨rfl, below_trans hb8 hb9⟩

theorem normals_calls (a b c d : P3) (w : World) (hg : Good w) :
    Calls Tryz.prog 5 #[.agg (V34 a b c d)] w fun e w' => e = .returned (.bool true) ∧ Below w.heap.size w w' := by
  cases h : [a, b, c, d].any (fun p => !nearB3 p) with
  | true => exact normals_far a b c d w hg h
  | false => exact normals_near a b c d w hg h

end Go.Proofs.YtocackggamifnaaGreatDoor
