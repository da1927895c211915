/- Package profile: tolerances, beyond and its test. -/
import Derived.Test.YtgdlfjofefhdoaaGreatDoorProfF
namespace Go.Proofs.YtgdlfjofefhdoaaGreatDoor
open Go.RowKit Go.Sort Go.Lib Go.Shelf Mb

attribute [local go_sem] Oper.semAt_some

/-- cells that hold ints -/
def Il (w : World) (b : Nat) (l : List Int) : Prop := b < w.heap.size ∧ ∀ i (h : i < l.length), w.cell? ⟨b, i, none⟩ = some (.int .i64 l[i])
theorem Il.to {w w' : World} {b : Nat} {l : List Int} (h : Il w b l) (hb : Below w.heap.size w w') : Il w' b l :=
  ⟨Nat.lt_of_lt_of_le h.1 hb.size, fun i hi => cell_to (h.2 i hi) hb⟩
/-- whether an int is a tolerance, and the error of some -/
def tolB (n : Int) : Bool := decide (0 ≤ n) && decide (n ≤ 100000)
def tolE (l : List Int) : Int := if l.all tolB = true then 0 else 2

set_option maxHeartbeats 1600000 in
theorem tols_calls (l : List Int) (b cap : Nat) (w : World) (hT : Il w b l) (hn : l.length ≤ 1000) :
    Calls Tryz.prog 96 #[.slice (some ⟨b, 0, none⟩) l.length cap] w fun e w' => e = .returned (.int .i64 (tolE l)) ∧ Below w.heap.size w w' := by
  go_enter Tryz.func96, Tryz.ntmps96
  go_wp2
  go_loopg [7] l.length (fun g i wr => ∃ k : Nat, k + g = l.length ∧ i = .int .i64 k ∧ Below w.heap.size w wr ∧ tolE (l.drop k) = tolE l)
  case atStart => exact ⟨0, Nat.zero_add _, rfl, Below.refl _ _, by rw [List.drop_zero]⟩
  case round =>
    obtain ⟨k, hk, rfl, hbel, herr⟩ := hrel
    have HE := Lib.hid herr; clear herr
    by_cases hlt : k < l.length
    · have c1 := (hT.to hbel).2 k hlt
      obtain ⟨p, hpp⟩ : ∃ p, l[k] = p := ⟨_, rfl⟩
      rw [hpp] at c1
      have HP := Lib.hid hpp; clear hpp
      by_cases h1 : p < 0
      · go_wp2_with fail
        go_ret
        refine ⟨ret_i ?_, hbel⟩
        rw [← HE.out, List.drop_eq_getElem_cons hlt, HP.out]
        simp [tolE, tolB, show ¬ 0 ≤ p by omega]
      · by_cases h2 : 100000 < p
        · go_wp2_with fail
          go_ret
          refine ⟨ret_i ?_, hbel⟩
          rw [← HE.out, List.drop_eq_getElem_cons hlt, HP.out]
          simp [tolE, tolB, show ¬ p ≤ 100000 by omega]
        · go_wp2_with fail
          go_roundg (gk - 1)
          case measure => omega
          case rel =>
            refine ⟨k + 1, by omega, by go_num, hbel, ?_⟩
            rw [← HE.out, List.drop_eq_getElem_cons hlt, HP.out]
            simp [tolE, tolB, show 0 ≤ p by omega, show p ≤ 100000 by omega]
    · go_wp2
      go_ret
      refine ⟨ret_i ?_, hbel⟩
      rw [← HE.out, List.drop_eq_nil_of_le (by omega)]; rfl

/-- a bound: the square of a tolerance, divided by the square of an int -/
def mostN (n y : Int) : Int := rn (n * n) (y * y)
def mostD (n y : Int) : Int := rd (n * n) (y * y)

set_option maxHeartbeats 1600000 in
theorem rof2_calls (n d : Int) (w : World) (hg : Good w) (h0 : 0 ≤ n) (h1 : n ≤ 10000000000) (h2 : 0 < d) (h3 : d ≤ 100) :
    Calls Tryz.prog 143 #[.int .i64 n, .int .i64 d] w fun e w' => e = .returned (.tuple #[R (rn n d) (rd n d), .int .i64 0]) ∧ Below w.heap.size w w' := by
  have l1 : (dg n).length ≤ 1024 := by have := dg_of_lt (n := n) (k := 11) (by omega) (by omega); omega
  have l2 : (dg d).length ≤ 1024 := by have := dg_of_lt (n := d) (k := 3) (by omega) (by omega); omega
  have hm := fun (W : World) hg => make_calls n d W hg (lowOps_any h2 l1 l2) l1 l2
  clear l1 l2
  go_enter Tryz.func143, Tryz.ntmps143
  go_wp2_with fail
  refine (of_calls n w hg (by omega) (by omega)).mono ?_
  rintro e w1 ⟨rfl, hb1⟩
  go_wp2_with fail
  refine (of_calls d w1 (hg.to hb1) (by omega) (by omega)).mono ?_
  rintro e w2 ⟨rfl, hb2⟩
  go_wp2_with fail
  refine (hm w2 (hg.to (below_trans hb1 hb2))).mono ?_
  rintro e w3 ⟨rfl, hb3⟩
  go_wp2_with fail
  go_ret2
  exact ⟨rfl, below_trans (below_trans hb1 hb2) hb3⟩

theorem most_dst {n y : Int} (h0 : 0 ≤ n) (h1 : n ≤ 100000) (h2 : 0 < y) (h3 : y ≤ 10) : Dst (mostN n y) (mostD n y) := by
  have hs : 0 ≤ n * n ∧ n * n ≤ 10000000000 := by
    have := Mb.mul_bd (A := 100000) (C := 100000) (a := n) (b := n) (by omega) (by omega)
    have := Int.mul_nonneg h0 h0
    omega
  have ht : 0 < y * y ∧ y * y ≤ 100 := by
    refine ⟨Int.mul_pos h2 h2, ?_⟩
    have := Mb.mul_bd (A := 10) (C := 10) (a := y) (b := y) (by omega) (by omega)
    omega
  unfold mostN mostD
  generalize n * n = a at *
  generalize y * y = b at *
  have l1 : (dg a).length ≤ 1024 := by have := dg_of_lt (n := a) (k := 11) (by omega) (by omega); omega
  have l2 : (dg b).length ≤ 1024 := by have := dg_of_lt (n := b) (k := 3) (by omega) (by omega); omega
  have h3 := rn_le hs.1 ht.1
  have h5 : rd a b ≤ b := by
    have g := gcd_le (n := a) ht.1
    unfold rd; rw [rg_of_pos ht.1]
    exact Int.ediv_le_self _ (by omega)
  exact ⟨low_rat ht.1 l1 l2, h3.1, by omega, by omega⟩

set_option maxHeartbeats 1600000 in
theorem pbeyond_calls (n y : Int) (w : World) (hg : Good w) (h0 : 0 ≤ n) (h1 : n ≤ 100000) (h2 : 0 < y) (h3 : y ≤ 10) :
    Calls Tryz.prog 97 #[.int .i64 n, .int .i64 y] w fun e w' => (∃ M, e = .returned (.func (.func 144) #[] #[.pointer (some ⟨M, 0, none⟩)]) ∧ w.heap.size ≤ M ∧ w'.cell? ⟨M, 0, none⟩ = some (R (mostN n y) (mostD n y))) ∧ Below w.heap.size w w' := by
  have hs : 0 ≤ n * n ∧ n * n ≤ 10000000000 := by
    have := Mb.mul_bd (A := 100000) (C := 100000) (a := n) (b := n) (by omega) (by omega)
    have := Int.mul_nonneg h0 h0
    omega
  have ht : 0 < y * y ∧ y * y ≤ 100 := by
    refine ⟨Int.mul_pos h2 h2, ?_⟩
    have := Mb.mul_bd (A := 10) (C := 10) (a := y) (b := y) (by omega) (by omega)
    omega
  have HO := rof2_calls (n * n) (y * y) w hg hs.1 hs.2 ht.1 ht.2
  obtain ⟨s1, s2⟩ := hs
  obtain ⟨t1, t2⟩ := ht
  obtain ⟨X, hX⟩ : ∃ X, R (rn (n * n) (y * y)) (rd (n * n) (y * y)) = X := ⟨_, rfl⟩
  rw [hX] at HO
  have HX := Lib.hid hX
  show Calls _ _ _ _ fun e w' => (∃ M, e = _ ∧ _ ∧ w'.cell? ⟨M, 0, none⟩ = some (R (rn (n * n) (y * y)) (rd (n * n) (y * y)))) ∧ _
  rw [hX]
  clear hX
  obtain ⟨sx, rfl⟩ : ∃ s, X = .string s := ⟨_, HX.out.symm⟩
  clear HX
  go_enter Tryz.func97, Tryz.ntmps97
  go_wp2_with fail
  refine HO.mono ?_
  rintro e w1 ⟨rfl, hb1⟩
  clear HO
  go_wp2_with fail
  go_ret
  exact ⟨⟨w1.heap.size, rfl, hb1.size, cell_new _ _ _ _ _ rfl⟩, below_trans hb1 (alloc_below _ _)⟩

/-- the test: whether a distance is greater -/
def beyB (N D n d : Int) : Bool := decide (0 < cmp3 (n * D) (N * d))

theorem beyT_calls (N D n d : Int) (M : Nat) (w : World) (hg : Good w) (hM : w.cell? ⟨M, 0, none⟩ = some (R N D)) (h : Dst n d) (k : Dst N D) :
    Calls Tryz.prog 144 #[R n d, .pointer (some ⟨M, 0, none⟩)] w fun e w' => e = .returned (.bool (beyB N D n d)) ∧ Below w.heap.size w w' := by
  have HO := order_calls n d N D w hg h k
  unfold beyB
  have hc := cmp3_bd (n * D) (N * d)
  generalize cmp3 (n * D) (N * d) = o at HO hc ⊢
  generalize hx : R n d = x at HO ⊢
  generalize hy : R N D = y at HO hM ⊢
  obtain ⟨sx, rfl⟩ : ∃ s, x = .string s := ⟨_, hx.symm⟩
  obtain ⟨sy, rfl⟩ : ∃ s, y = .string s := ⟨_, hy.symm⟩
  clear h k hg hx hy
  go_enter Tryz.func144, Tryz.ntmps144
  go_wp2_with fail
  refine HO.mono ?_
  rintro e w1 ⟨rfl, hb1⟩
  clear HO
  go_wp2_with fail
  go_ret
  exact ⟨rfl, hb1⟩

theorem outT_calls (N D n d : Int) (i : Int) (M F : Nat) (w : World) (hg : Good w) (hM : w.cell? ⟨M, 0, none⟩ = some (R N D)) (hF : w.cell? ⟨F, 0, none⟩ = some (.func (.func 144) #[] #[.pointer (some ⟨M, 0, none⟩)])) (h : Dst n d) (k : Dst N D) :
    Calls Tryz.prog 101 #[.int .i64 i, R n d, .pointer (some ⟨F, 0, none⟩)] w fun e w' => e = .returned (.bool (beyB N D n d)) ∧ Below w.heap.size w w' := by
  have HO := beyT_calls N D n d M w hg hM h k
  generalize beyB N D n d = o at HO ⊢
  generalize hx : R n d = x at HO ⊢
  obtain ⟨sx, rfl⟩ : ∃ s, x = .string s := ⟨_, hx.symm⟩
  clear h k hg hx hM
  go_enter Tryz.func101, Tryz.ntmps101
  go_wp2_with fail
  refine HO.mono ?_
  rintro e w1 ⟨rfl, hb1⟩
  clear HO
  go_wp2_with fail
  go_ret
  exact ⟨rfl, hb1⟩

end Go.Proofs.YtgdlfjofefhdoaaGreatDoor
