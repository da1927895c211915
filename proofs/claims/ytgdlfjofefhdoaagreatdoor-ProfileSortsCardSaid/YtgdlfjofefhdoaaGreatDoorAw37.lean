/- The examples of the chapter on polylines: metrolablaw37.awake answers true. -/
import Derived.Test.YtgdlfjofefhdoaaGreatDoorProfI
import Derived.Test.YtgdlfjofefhdoaaGreatDoorProfF
import Derived.ChangeKeysEq
namespace Go.Proofs.YtgdlfjofefhdoaaGreatDoor
open Go.RowKit Go.Sort Go.Lib Go.Shelf Mb

attribute [local go_sem] Oper.semAt_some

def fewP (n : Nat) : Bool := decide (n ≤ 8) || (decide (64 < n) && decide (n < 128))

theorem fewP_calls (a : Option Addr) (n cap : Nat) (w : World) (hn : n ≤ 9223372036854775807) :
    Calls Tryz.prog 84 #[.slice a n cap] w fun e w' => e = .returned (.bool (fewP n)) ∧ Below w.heap.size w w' := by
  by_cases h1 : n ≤ 8
  · have h1' : (n : Int) ≤ 8 := by omega
    go_enter Tryz.func84, Tryz.ntmps84
    go_wp2_with fail
    go_ret
    exact ⟨ret_b (by simp [fewP, h1]), Below.refl _ _⟩
  · have h1' : ¬ (n : Int) ≤ 8 := by omega
    by_cases h2 : 64 < n
    · have h2' : (64 : Int) < n := by omega
      by_cases h3 : n < 128
      · have h3' : (n : Int) < 128 := by omega
        go_enter Tryz.func84, Tryz.ntmps84
        go_wp2_with fail
        go_ret
        exact ⟨ret_b (by simp [fewP, h1, h2, h3]), Below.refl _ _⟩
      · have h3' : ¬ (n : Int) < 128 := by omega
        go_enter Tryz.func84, Tryz.ntmps84
        go_wp2_with fail
        go_ret
        exact ⟨ret_b (by simp [fewP, h1, h2, h3]), Below.refl _ _⟩
    · have h2' : ¬ (64 : Int) < n := by omega
      go_enter Tryz.func84, Tryz.ntmps84
      go_wp2_with fail
      go_ret
      exact ⟨ret_b (by simp [fewP, h1, h2]), Below.refl _ _⟩


theorem few37_calls (a : Option Addr) (n cap : Nat) (w : World) (hn : n ≤ 9223372036854775807) :
    Calls Tryz.prog 30 #[.slice a n cap] w fun e w' => e = .returned (.bool (fewP n)) ∧ Below w.heap.size w w' := by
  have H := fewP_calls a n cap w hn
  go_enter Tryz.func30, Tryz.ntmps30
  go_wp2_with fail
  refine H.mono ?_
  rintro e w1 ⟨rfl, hb1⟩
  go_wp2_with fail
  go_ret
  exact ⟨rfl, hb1⟩

theorem at37_calls (x y : Int) (w : World) :
    Calls Tryz.prog 85 #[.int .i64 x, .int .i64 y] w fun e w' => e = .returned (V ⟨x, y⟩) ∧ Below w.heap.size w w' := by
  go_enter Tryz.func85, Tryz.ntmps85
  go_wp2_with fail
  exact bodyPost_ret (v := V ⟨x, y⟩) (by simp [results, Tryz.results85, go_sem]) rfl ⟨rfl, alloc_below _ _⟩

set_option maxHeartbeats 1600000 in
theorem eqs_calls (v u : Value) (L : List Nat) (w : World) (h1 : Irow w v L) (h2 : Irow w u L) (hL : L.length ≤ 1000) (hb : ∀ x ∈ L, x ≤ 1000) :
    Calls Tryz.prog 49 #[v, u] w fun e w' => e = .returned (.bool true) ∧ Below w.heap.size w w' := by
  obtain ⟨a1, c1, rfl, k1⟩ := h1
  obtain ⟨a2, c2, rfl, k2⟩ := h2
  obtain ⟨n, hn⟩ : ∃ n, L.length = n := ⟨_, rfl⟩
  have HC := Lib.hid (And.intro k1 (And.intro k2 (And.intro hn hb))); clear k1 k2 hb
  rw [hn]
  rw [hn] at hL
  clear hn
  go_enter Tryz.func49, Tryz.ntmps49
  go_wp2_with fail
  go_loopg [13] n (fun g v wr => ∃ i : Nat, i + g = n ∧ v = .int .i64 i ∧ Below w.heap.size w wr)
  case atStart => exact ⟨0, Nat.zero_add _, rfl, Below.refl _ _⟩
  case round =>
    obtain ⟨i, hi, rfl, hbel⟩ := hrel
    by_cases hlt : i < n
    · have hlL : i < L.length := by rw [HC.out.2.2.1]; exact hlt
      obtain ⟨b1, rfl, -, k1⟩ := HC.out.1 i hlL
      obtain ⟨b2, rfl, -, k2⟩ := HC.out.2.1 i hlL
      have r1 := cell_regrown (cell_to k1 hbel)
      have r2 := cell_regrown (cell_to k2 hbel)
      have HB := Lib.hid hbel
      clear k1 k2 hbel
      have i1 : ((i : Int) < (n : Int)) := by omega
      have z1 : (0 : Int) ≤ (i : Int) := by omega
      have n1 : n ≠ 0 := by omega
      obtain ⟨s, hs⟩ : ∃ s, (L[i] : Int) = s := ⟨_, rfl⟩
      rw [hs] at r1 r2
      clear hs
      go_wp2_with fail
      refine wp_region_quiet_below follows (by kernel_rfl) ?_
      repeat (quiet_step (fail))
      refine wpQuiet_nil ?_
      intro _ hw'
      obtain ⟨⟨dq, osq⟩, rfl⟩ := hw'
      go_wp2_with fail
      go_roundg (n - i - 1)
      case measure => omega
      case rel => exact ⟨i + 1, by omega, by go_num, below_trans HB.out (below_regrown wr dq osq)⟩
    · go_wp2_with fail
      go_ret
      exact ⟨rfl, hbel⟩

abbrev L3 : List P2 := [⟨0, 0⟩, ⟨10, 0⟩, ⟨10, 10⟩]
theorem itoa37 {n : Nat} {l : List UInt8} (h : decDigits n = l) : itoa (n : Int) = l := by rw [Mb.itoa_nonneg (by omega)]; exact h
theorem v_9 : R 9 1 = .string ⟨#[57]⟩ := by
  rw [R_one]
  show Value.string ⟨(itoa (9 : Nat)).toArray⟩ = _
  rw [itoa37 (l := [57]) (by simp [decDigits])]
theorem v_12 : R 1 2 = .string ⟨#[49, 47, 50]⟩ := by
  show Value.string ⟨(rtxt (1 : Nat) (2 : Nat)).toArray⟩ = _
  unfold rtxt
  rw [if_neg (by decide), itoa37 (l := [49]) (by simp [decDigits]), itoa37 (l := [50]) (by simp [decDigits])]
  rfl
theorem n_o : nrst L3 false ⟨4, 3⟩ = some (9, 1, 0) := by decide +kernel
theorem n_c : nrst L3 true ⟨4, 3⟩ = some (1, 2, 2) := by decide +kernel
theorem e_o : nErr L3 false ⟨4, 3⟩ = 0 := by decide +kernel
theorem e_c : nErr L3 true ⟨4, 3⟩ = 0 := by decide +kernel
theorem e_1 : nErr L3 true ⟨7, 3⟩ = 0 := by decide +kernel
theorem e_2 : nErr L3 true ⟨5, 5⟩ = 0 := by decide +kernel
theorem e_3 : nErr L3 true ⟨3, 4⟩ = 0 := by decide +kernel
theorem i_1 : inV L3 ⟨7, 3⟩ = 1 := by decide +kernel
theorem i_2 : inV L3 ⟨5, 5⟩ = 0 := by decide +kernel
theorem i_3 : inV L3 ⟨3, 4⟩ = -1 := by decide +kernel
theorem o_e : outE L3 false [⟨4, 3⟩, ⟨4, 1⟩] 3 = 0 := by decide +kernel
theorem o_l : outL L3 false [⟨4, 3⟩, ⟨4, 1⟩] 3 = [0] := by decide +kernel

theorem x37_1 (b : Nat) (w : World) (hg : Good w) (hT : Sl2 w (some ⟨b, 0, none⟩) L3) :
    Calls Tryz.prog 34 #[.slice (some ⟨b, 0, none⟩) 3 3, .bool false, V ⟨4, 3⟩] w fun e w' => e = .returned (.tuple #[.string ⟨#[57]⟩, .int .i64 0, .int .i64 0]) ∧ Below w.heap.size w w' := by
  have h := pNearest_calls L3 (some ⟨b, 0, none⟩) 3 false ⟨4, 3⟩ w hg hT (by simp)
  rw [show nV L3 false ⟨4, 3⟩ = .string ⟨#[57]⟩ from (by unfold nV; rw [if_pos e_o, n_o]; exact v_9), show nI L3 false ⟨4, 3⟩ = .int .i64 0 from (by unfold nI; rw [if_pos e_o, n_o]; rfl), e_o] at h
  exact h

theorem x37_2 (b : Nat) (w : World) (hg : Good w) (hT : Sl2 w (some ⟨b, 0, none⟩) L3) :
    Calls Tryz.prog 34 #[.slice (some ⟨b, 0, none⟩) 3 3, .bool true, V ⟨4, 3⟩] w fun e w' => e = .returned (.tuple #[.string ⟨#[49, 47, 50]⟩, .int .i64 2, .int .i64 0]) ∧ Below w.heap.size w w' := by
  have h := pNearest_calls L3 (some ⟨b, 0, none⟩) 3 true ⟨4, 3⟩ w hg hT (by simp)
  rw [show nV L3 true ⟨4, 3⟩ = .string ⟨#[49, 47, 50]⟩ from (by unfold nV; rw [if_pos e_c, n_c]; exact v_12), show nI L3 true ⟨4, 3⟩ = .int .i64 2 from (by unfold nI; rw [if_pos e_c, n_c]; rfl), e_c] at h
  exact h

theorem x37_3 (b : Nat) (w : World) (hg : Good w) (hT : Sl2 w (some ⟨b, 0, none⟩) L3) :
    Calls Tryz.prog 32 #[.slice (some ⟨b, 0, none⟩) 3 3, V ⟨7, 3⟩] w fun e w' => e = .returned (.tuple #[.int .i64 1, .int .i64 0]) ∧ Below w.heap.size w w' := by
  have h := pInside_calls L3 (some ⟨b, 0, none⟩) 3 ⟨7, 3⟩ w hg hT (by simp)
  rw [i_1, e_1] at h
  exact h

theorem x37_4 (b : Nat) (w : World) (hg : Good w) (hT : Sl2 w (some ⟨b, 0, none⟩) L3) :
    Calls Tryz.prog 32 #[.slice (some ⟨b, 0, none⟩) 3 3, V ⟨5, 5⟩] w fun e w' => e = .returned (.tuple #[.int .i64 0, .int .i64 0]) ∧ Below w.heap.size w w' := by
  have h := pInside_calls L3 (some ⟨b, 0, none⟩) 3 ⟨5, 5⟩ w hg hT (by simp)
  rw [i_2, e_2] at h
  exact h

theorem x37_5 (b : Nat) (w : World) (hg : Good w) (hT : Sl2 w (some ⟨b, 0, none⟩) L3) :
    Calls Tryz.prog 32 #[.slice (some ⟨b, 0, none⟩) 3 3, V ⟨3, 4⟩] w fun e w' => e = .returned (.tuple #[.int .i64 (-1), .int .i64 0]) ∧ Below w.heap.size w w' := by
  have h := pInside_calls L3 (some ⟨b, 0, none⟩) 3 ⟨3, 4⟩ w hg hT (by simp)
  rw [i_3, e_3] at h
  exact h

theorem x37_6 (b c : Nat) (w : World) (hg : Good w) (hT : Sl2 w (some ⟨b, 0, none⟩) L3) (hP : Sl2 w (some ⟨c, 0, none⟩) [⟨4, 3⟩, ⟨4, 1⟩]) :
    Calls Tryz.prog 43 #[.slice (some ⟨b, 0, none⟩) 3 3, .bool false, .slice (some ⟨c, 0, none⟩) 2 2, .int .i64 3] w fun e w' => (∃ v, e = .returned (.tuple #[v, .int .i64 0]) ∧ Irow w' v [0]) ∧ Below w.heap.size w w' := by
  have h := pOutside_calls L3 [⟨4, 3⟩, ⟨4, 1⟩] (some ⟨b, 0, none⟩) (some ⟨c, 0, none⟩) 3 2 false 3 w hg hT hP (by simp) (by simp)
  rw [o_e, o_l] at h
  exact h

theorem irow_new1 (w : World) : Irow (w.alloc (.cells #[.int .i64 0] 3)) (.slice (some ⟨w.heap.size, 0, none⟩) 1 1) [0] :=
  ⟨_, _, rfl, fun j hj => ⟨_, rfl, by simp, by
    have : j = 0 := by simp at hj; omega
    subst this
    exact cell_new _ _ _ _ _ rfl⟩⟩

theorem new3 (w : World) : Sl2 (w.alloc (.cells #[.int .i64 0, .int .i64 0, .int .i64 10, .int .i64 0, .int .i64 10, .int .i64 10] 23)) (some ⟨w.heap.size, 0, none⟩) L3 := Sl2.of (pts_new3 w ⟨0, 0⟩ ⟨10, 0⟩ ⟨10, 10⟩ 23)
theorem new2 (w : World) : Sl2 (w.alloc (.cells #[.int .i64 4, .int .i64 3, .int .i64 4, .int .i64 1] 23)) (some ⟨w.heap.size, 0, none⟩) [⟨4, 3⟩, ⟨4, 1⟩] := Sl2.of (pts_new2 w ⟨4, 3⟩ ⟨4, 1⟩ 23)

set_option maxHeartbeats 4000000 in
set_option maxRecDepth 100000 in
theorem awake37_calls (w : World) (hg : Good w) :
    Calls Tryz.prog 31 #[] w fun e w' => e = .returned (.bool true) ∧ Below w.heap.size w w' := by
  have H := Below.refl w.heap.size w
  have HG := Lib.hid hg; clear hg
  go_enter Tryz.func31, Tryz.ntmps31
  go_wp2_with fail
  refine (at37_calls 0 0 _).mono ?_
  rintro e w' ⟨rfl, hb⟩
  replace H := below_trans H hb; clear hb
  go_wp2_with fail
  refine (at37_calls 10 0 _).mono ?_
  rintro e w' ⟨rfl, hb⟩
  replace H := below_trans H hb; clear hb
  go_wp2_with fail
  refine (at37_calls 10 10 _).mono ?_
  rintro e w3 ⟨rfl, hb⟩
  replace H := below_trans (below_trans H hb) (alloc_below w3 (.cells #[.int .i64 0, .int .i64 0, .int .i64 10, .int .i64 0, .int .i64 10, .int .i64 10] 23)); clear hb
  have HB := new3 w3
  go_wp2_with fail
  refine (at37_calls 4 3 _).mono ?_
  rintro e w' ⟨rfl, hb⟩
  replace H := below_trans H hb; replace HB := HB.to hb; clear hb
  go_wp2_with fail
  refine (x37_1 _ _ (HG.out.to H) HB).mono ?_
  rintro e w' ⟨rfl, hb⟩
  replace H := below_trans H hb; replace HB := HB.to hb; clear hb
  go_wp2_with fail
  refine (at37_calls 4 3 _).mono ?_
  rintro e w' ⟨rfl, hb⟩
  replace H := below_trans H hb; replace HB := HB.to hb; clear hb
  go_wp2_with fail
  refine (x37_2 _ _ (HG.out.to H) HB).mono ?_
  rintro e w' ⟨rfl, hb⟩
  replace H := below_trans H hb; replace HB := HB.to hb; clear hb
  go_wp2_with fail
  refine (at37_calls 7 3 _).mono ?_
  rintro e w' ⟨rfl, hb⟩
  replace H := below_trans H hb; replace HB := HB.to hb; clear hb
  go_wp2_with fail
  refine (x37_3 _ _ (HG.out.to H) HB).mono ?_
  rintro e w' ⟨rfl, hb⟩
  replace H := below_trans H hb; replace HB := HB.to hb; clear hb
  go_wp2_with fail
  refine (at37_calls 5 5 _).mono ?_
  rintro e w' ⟨rfl, hb⟩
  replace H := below_trans H hb; replace HB := HB.to hb; clear hb
  go_wp2_with fail
  refine (x37_4 _ _ (HG.out.to H) HB).mono ?_
  rintro e w' ⟨rfl, hb⟩
  replace H := below_trans H hb; replace HB := HB.to hb; clear hb
  go_wp2_with fail
  refine (at37_calls 3 4 _).mono ?_
  rintro e w' ⟨rfl, hb⟩
  replace H := below_trans H hb; replace HB := HB.to hb; clear hb
  go_wp2_with fail
  refine (x37_5 _ _ (HG.out.to H) HB).mono ?_
  rintro e w' ⟨rfl, hb⟩
  replace H := below_trans H hb; replace HB := HB.to hb; clear hb
  go_wp2_with fail
  refine (at37_calls 4 3 _).mono ?_
  rintro e w' ⟨rfl, hb⟩
  replace H := below_trans H hb; replace HB := HB.to hb; clear hb
  go_wp2_with fail
  refine (at37_calls 4 1 _).mono ?_
  rintro e w4 ⟨rfl, hb⟩
  have hb2 := alloc_below w4 (.cells #[.int .i64 4, .int .i64 3, .int .i64 4, .int .i64 1] 23)
  replace H := below_trans (below_trans H hb) hb2; replace HB := (HB.to hb).to hb2; clear hb hb2
  have HP := new2 w4
  go_wp2_with fail
  refine (x37_6 _ _ _ (HG.out.to H) HB HP).mono ?_
  rintro e w5 ⟨⟨v, rfl, hv⟩, hb⟩
  have hb2 := alloc_below w5 (.cells #[.int .i64 0] 3)
  replace H := below_trans (below_trans H hb) hb2
  have hv2 := hv.to hb2
  have hn2 := irow_new1 w5
  clear hb hb2 HP HB
  go_wp2_with fail
  refine (eqs_calls _ _ [0] _ hv2 hn2 (by simp) (by simp)).mono ?_
  rintro e w6 ⟨rfl, hb⟩
  replace H := below_trans H hb; clear hb
  go_wp2_with fail
  go_ret
  exact ⟨rfl, H⟩

end Go.Proofs.YtgdlfjofefhdoaaGreatDoor
