/- Package profile: segments, an iterator over the segments of a polyline. -/
import Derived.Test.YtgdlfjofefhdoaaGreatDoorOpt
import Derived.Test.YtgdlfjofefhdoaaGreatDoorMixed
import Derived.RangeFuncNested
import Derived.RangeFuncBound
import Derived.RangeFuncCalls
import Derived.RangeFuncLeaves
import Derived.RangeFuncBox
import Derived.Shelf.Abstract
import Derived.Shelf.RegionOpen
import Derived.OwnWalkIn
import Derived.TacticsInMore
import Derived.LoopNIn
import Derived.LoopIn
namespace Go.Proofs.YtgdlfjofefhdoaaGreatDoor
open Go.RowKit Go.Sort Go.Lib Go.Shelf Mb

attribute [local go_sem] Oper.semAt_some

def g2 (l : List P2) (i : Nat) : P2 := l[i]?.getD ⟨0, 0⟩
theorem g2_get {l : List P2} {i : Nat} (hi : i < l.length) : g2 l i = l[i] := by unfold g2; rw [List.getElem?_eq_getElem hi]; rfl
theorem g2_cells {w : World} {a : Option Addr} {l : List P2} (hT : Sl2 w a l) {i : Nat} (hi : i < l.length) : ∃ b o, a = some ⟨b, o, none⟩ ∧ b < w.heap.size ∧ w.cell? ⟨b, o + i * 2, none⟩ = some (.int .i64 (g2 l i).x) ∧ w.cell? ⟨b, o + i * 2 + 1, none⟩ = some (.int .i64 (g2 l i).y) := by
  obtain ⟨b, o, e, hb, hc⟩ := hT i hi
  rw [g2_get hi]
  exact ⟨b, o, e, hb, hc⟩
theorem g2_flat {l : List P2} (h : errOf l = 0) (i : Nat) : flatB (g2 l i) = true := by
  by_cases hi : i < l.length
  · rw [g2_get hi]; exact errOf_ok h _ (List.getElem_mem hi)
  · have : g2 l i = ⟨0, 0⟩ := by unfold g2; rw [List.getElem?_eq_none (by omega)]; rfl
    rw [this]; decide

/-- a segment: its index and its ends, right ones -/
abbrev E3 := { x : Nat × P2 × P2 // x.1 ≤ 64 ∧ flatB x.2.1 = true ∧ flatB x.2.2 = true }
abbrev V22 (p q : P2) : Value := .agg #[.int .i64 p.x, .int .i64 p.y, .int .i64 q.x, .int .i64 q.y]
abbrev encS (x : E3) : Array Value := #[.int .i64 x.1.1, V22 x.1.2.1 x.1.2.2]

/-- how many segments -/
def segM (n : Nat) (c : Bool) : Nat := if c then n else n - 1
theorem segM_le (n : Nat) (c : Bool) : segM n c ≤ n := by unfold segM; split <;> omega

def sq3 (l : List P2) (h : errOf l = 0) (i : Nat) : E3 :=
  ⟨(min i 64, g2 l i, g2 l ((i + 1) % l.length)), Nat.min_le_right _ _, g2_flat h _, g2_flat h _⟩

def upto {α : Type} (f : Nat → α) (k : Nat) : List α := (List.range k).map f
theorem upto_succ {α : Type} (f : Nat → α) (k : Nat) : upto f (k + 1) = upto f k ++ [f k] := by simp [upto, List.range_succ]
theorem upto_length {α : Type} (f : Nat → α) (k : Nat) : (upto f k).length = k := by simp [upto]
theorem upto_mem {α : Type} {f : Nat → α} {k : Nat} {x : α} : x ∈ upto f k ↔ ∃ i, i < k ∧ f i = x := by simp [upto]

/-- the cells below n₀, and those of two blocks more, hold what they held -/
def Kep (n₀ Bs : Nat) (W W' : World) : Prop := ∀ b i v, (b < n₀ ∨ b = Bs ∨ b = Bs + 1) → W.cell? ⟨b, i, none⟩ = some v → W'.cell? ⟨b, i, none⟩ = some v
theorem kep_r {n₀ Bs : Nat} {A : World} : Kep n₀ Bs A A := fun _ _ _ _ h => h
theorem kep_t {n₀ Bs : Nat} {A B C : World} (h : Kep n₀ Bs A B) (k : Kep n₀ Bs B C) : Kep n₀ Bs A C := fun b i v hb hc => k b i v hb (h b i v hb hc)
theorem kep_b {n₀ Bs : Nat} (W : World) (l : Nat) (o o' : Obj) (h : W.heap[l]? = some o) (ho : o.isCells = false) : Kep n₀ Bs W (W.putObj l o') :=
  fun b i v _ hc => cell_kept hc (grownBy_putObj' W l o') (fun r e => by cases e; exact ⟨_, h, ho⟩)
theorem kep_below {n₀ Bs : Nat} {W W' : World} (h : Below W.heap.size W W') : Kep n₀ Bs W W' := fun _ _ _ _ hc => cell_to hc h
theorem kep_set {n₀ Bs S : Nat} {w : World} {v : Value} (h1 : n₀ ≤ S) (h2 : S ≠ Bs) (h3 : S ≠ Bs + 1) : Kep n₀ Bs w (w.setCell ⟨S, 0, none⟩ v) := fun b i u hb hc => by
  rw [World.cell?_setCell_other]
  · exact hc
  · intro e
    injection e with e1 e2 e3
    omega

theorem segments_in (F : Fence) (n : Nat) (hF : F.fn 94) (hro : F.round = none) (a : Option Addr) (len cap : Nat) (c : Bool) (w : World) :
    CallsIn F n Tryz.prog 94 #[.slice a len cap, .bool c] w fun e w' => e = .returned (.func (.func 142) #[] #[.pointer (some ⟨w.heap.size, 0, none⟩), .pointer (some ⟨w.heap.size + 1, 0, none⟩)]) ∧ w' = (w.alloc (.cells #[.slice a len cap] 54)).alloc (.cells #[.bool c] 4) := by
  refine callsIn_of_wp Tryz.func94 rfl hF ?_ hro
  simp only [Tryz.ntmps94, List.size_toArray, List.length_cons, List.length_nil, Nat.reduceAdd, Nat.reduceSub, Array.replicate_succ, Array.replicate_zero, List.push_toArray, List.append_toArray, List.nil_append, List.cons_append]
  gi_wp2
  go_ret
  exact ⟨rfl, rfl⟩

set_option maxRecDepth 100000 in
set_option maxHeartbeats 4000000 in
theorem segments1_in (F : Fence) (n : Nat) (hF : F.fn 142) (hro : F.round = none) (hn : 1 ≤ n) (lp Bs n₀ B : Nat) (a : Option Addr) (cap : Nat) (l : List P2) (c : Bool) (h : errOf l = 0) (hl : l.length ≤ 64) (J Jx : List E3 → World → Prop) (hJ : AbidesFrom B J)
    (hY : ∀ pre x W, J pre W → pre.length < segM l.length c → YieldAt F (n - 1) Tryz.prog lp (encS x) W fun e W' =>
      (e = .returned (.bool true) ∧ J (pre ++ [x]) W' ∧ Kep n₀ Bs W W') ∨ (e = .returned (.bool false) ∧ Jx (pre ++ [x]) W'))
    (W : World) (hBs : W.cell? ⟨Bs, 0, none⟩ = some (.slice a l.length cap)) (hBc : W.cell? ⟨Bs + 1, 0, none⟩ = some (.bool c)) (hT : ∀ i, i < l.length → ∃ b o, a = some ⟨b, o, none⟩ ∧ b < n₀ ∧ W.cell? ⟨b, o + i * 2, none⟩ = some (.int .i64 (g2 l i).x) ∧ W.cell? ⟨b, o + i * 2 + 1, none⟩ = some (.int .i64 (g2 l i).y)) (h0 : J [] W) :
    CallsIn F n Tryz.prog 142 #[.func (.yield lp) #[] #[], .pointer (some ⟨Bs, 0, none⟩), .pointer (some ⟨Bs + 1, 0, none⟩)] W fun e W' => (∃ v, e = .returned v) ∧
      ((∃ ys, ys = upto (sq3 l h) (segM l.length c) ∧ J ys W') ∨ (∃ pre, (∃ k, k ≤ segM l.length c ∧ pre = upto (sq3 l h) k) ∧ Jx pre W')) := by
  have HT := Lib.hid hT; clear hT
  refine callsIn_of_wp Tryz.func142 rfl hF ?_ hro
  simp only [Tryz.ntmps142, List.size_toArray, List.length_cons, List.length_nil, Nat.reduceAdd, Nat.reduceSub, Array.replicate_succ, Array.replicate_zero, List.push_toArray, List.append_toArray, List.nil_append, List.cons_append]
  gi_wp2
  gi_loopw [8] (fun i wr => ∃ k : Nat, k ≤ segM l.length c ∧ i = .int .i64 k ∧ J (upto (sq3 l h) k) wr ∧ Kep n₀ Bs W wr) (fun i _ => l.length - (RowKit.intOf i).toNat)
  case atStart => exact ⟨0, Nat.zero_le _, rfl, h0, kep_r⟩
  case round =>
    obtain ⟨k, hk, rfl, hJs, hke⟩ := hrel
    have hkl := segM_le l.length c
    by_cases hlt : k < l.length
    · have d0 := hke _ _ _ (.inr (.inl rfl)) hBs
      have dc := hke _ _ _ (.inr (.inr rfl)) hBc
      obtain ⟨b, o, rfl, hb, c1, c2⟩ := HT.out k hlt
      have d1 := hke _ _ _ (.inl hb) c1
      have d2 := hke _ _ _ (.inl hb) c2
      have i1 : ((k : Int) < l.length) := by omega
      have n1 : l ≠ [] := by intro e; rw [e] at hlt; exact Nat.not_lt_zero _ hlt
      have w1 : IntKind.i64.wrap ((k : Int) + 1) = (k : Int) + 1 := IntWalk.i64_in _ (by omega)
      have hal := alloc_below wr (.cells #[.int .i64 (g2 l k).x, .int .i64 (g2 l k).y] 23)
      have e0 := cell_to d0 hal
      have ec := cell_to dc hal
      by_cases hend : k + 1 = l.length ∧ c = false
      · obtain ⟨hk1, rfl⟩ := hend
        have j1 : ((k : Int) + 1 == (l.length : Int)) = true := by rw [beq_iff_eq]; omega
        have hm : segM l.length false = k := by unfold segM; simp; omega
        have hJ5 : J (upto (sq3 l h) k) (wr.alloc (.cells #[.int .i64 (g2 l k).x, .int .i64 (g2 l k).y] 23)) :=
          hJ _ _ _ none hJs (gb_below hal) (fun r e => by cases e)
        have HJ := Lib.hid (And.intro hJ5 hm)
        clear hJ5 hm hJs hke hk hk1
        gi_wp2
        refine bodyPost_ret (results_none rfl _ _ _) rfl ?_
        exact ⟨⟨_, rfl⟩, .inl ⟨_, by rw [HJ.out.2], HJ.out.1⟩⟩
      · have hkm : k < segM l.length c := by
          unfold segM
          cases c with
          | true => simpa using hlt
          | false =>
            have : k + 1 ≠ l.length := fun e => hend ⟨e, rfl⟩
            simp; omega
        obtain ⟨m, hm⟩ : ∃ m, (k + 1) % l.length = m := ⟨_, rfl⟩
        have hml : m < l.length := hm ▸ Nat.mod_lt _ (by omega)
        obtain ⟨b', o', e', -, c3, c4⟩ := HT.out m hml
        cases e'
        have d3 := hke _ _ _ (.inl hb) c3
        have d4 := hke _ _ _ (.inl hb) c4
        have e3 := cell_to d3 hal
        have e4 := cell_to d4 hal
        have i2 : ((m : Int) < l.length) := by omega
        have n0 : (l.length : Int) ≠ 0 := by omega
        have hr : ((k : Int) + 1).tmod (l.length : Int) = (m : Int) := by
          rw [← hm, show (k : Int) + 1 = ((k + 1 : Nat) : Int) by omega, Int.tmod_eq_emod_of_nonneg (by omega)]; rfl
        have hJ5 : ∀ q, J (upto (sq3 l h) k) ((wr.alloc (.cells #[.int .i64 (g2 l k).x, .int .i64 (g2 l k).y] 23)).drewN q) := fun q =>
          hJ _ _ _ none hJs (gb_below (below_trans hal (bel_dn _ _))) (fun r e => by cases e)
        have hK5 : ∀ q, Kep n₀ Bs wr ((wr.alloc (.cells #[.int .i64 (g2 l k).x, .int .i64 (g2 l k).y] 23)).drewN q) := fun q => kep_below (below_trans hal (bel_dn _ _))
        have hmx : Tryz.prog.follows .mixedOrders = true := follows
        obtain ⟨eq, heq⟩ : ∃ eq, ((k : Int) + 1 == (l.length : Int)) = eq := ⟨_, rfl⟩
        have hcc : eq = true → c = true := fun e => by
          rw [e] at heq
          have := eq_of_beq heq
          cases c with
          | true => rfl
          | false => exact absurd ⟨by omega, rfl⟩ hend
        clear hend
        have hsq : (sq3 l h k).1 = (k, g2 l k, g2 l m) := by
          show (min k 64, g2 l k, g2 l ((k + 1) % l.length)) = _
          rw [hm, Nat.min_eq_left (by omega)]
        have HS := Lib.hid (And.intro hsq (And.intro hke (And.intro hm hkm)))
        have hY' := fun q => hY _ (sq3 l h k) _ (hJ5 q) (by rw [upto_length]; exact hkm)
        have HY := Lib.hid (And.intro hY' hK5)
        clear hsq hm hkm hY' hK5 hJ5 hJs hke hk
        have hdone : ∀ (W3 : World), J (upto (sq3 l h) (k + 1)) W3 → Kep n₀ Bs W W3 → True := fun _ _ _ => trivial
        cases eq with
        | true =>
          obtain rfl := hcc rfl
          clear hcc hdone
          gi_wp2
          refine wpIn_region_first (fun w' => ∃ q, w' = (wr.alloc (.cells #[.int .i64 (g2 l k).x, .int .i64 (g2 l k).y] 23)).drewN q) 12 hmx (by kernel_rfl) (by kernel_rfl) (by kernel_rfl) ⟨1, rfl⟩ ?_
          simp only [List.take_succ_cons, List.take_zero, List.drop_succ_cons, List.drop_zero]
          repeat (quiet_step_in (fail))
          refine wpQuietIn_nil ?_
          intro _ hw'
          obtain ⟨q, rfl⟩ := hw'
          obtain ⟨fn, tmps, assign, body, hy, hR⟩ := HY.out.1 q
          rw [show encS (sq3 l h k) = #[.int .i64 k, V22 (g2 l k) (g2 l m)] by unfold encS; rw [HS.out.1]] at hy
          have HR := Lib.hid (And.intro (kep_t HS.out.2.1 (HY.out.2 q)) HS.out.2.2.2); clear HY HS
          gi_wp2
          refine hR.mono ?_
          rintro e W3 (⟨rfl, hJ3, hk3⟩ | ⟨rfl, hJx3⟩)
          · have hK := kep_t HR.out.1 hk3
            gi_wp2
            go_roundw
            case rel => exact ⟨k + 1, HR.out.2, by go_num, by rw [upto_succ]; exact hJ3, hK⟩
            case measure => simp [RowKit.intOf]; omega
          · gi_wp2
            refine bodyPost_ret (results_none rfl _ _ _) rfl ?_
            exact ⟨⟨_, rfl⟩, .inr ⟨_, ⟨k + 1, HR.out.2, (upto_succ _ _).symm⟩, hJx3⟩⟩
        | false =>
          clear hcc hdone
          gi_wp2
          refine wpIn_region_first (fun w' => ∃ q, w' = (wr.alloc (.cells #[.int .i64 (g2 l k).x, .int .i64 (g2 l k).y] 23)).drewN q) 12 hmx (by kernel_rfl) (by kernel_rfl) (by kernel_rfl) ⟨1, rfl⟩ ?_
          simp only [List.take_succ_cons, List.take_zero, List.drop_succ_cons, List.drop_zero]
          repeat (quiet_step_in (fail))
          refine wpQuietIn_nil ?_
          intro _ hw'
          obtain ⟨q, rfl⟩ := hw'
          obtain ⟨fn, tmps, assign, body, hy, hR⟩ := HY.out.1 q
          rw [show encS (sq3 l h k) = #[.int .i64 k, V22 (g2 l k) (g2 l m)] by unfold encS; rw [HS.out.1]] at hy
          have HR := Lib.hid (And.intro (kep_t HS.out.2.1 (HY.out.2 q)) HS.out.2.2.2); clear HY HS
          gi_wp2
          refine hR.mono ?_
          rintro e W3 (⟨rfl, hJ3, hk3⟩ | ⟨rfl, hJx3⟩)
          · have hK := kep_t HR.out.1 hk3
            gi_wp2
            go_roundw
            case rel => exact ⟨k + 1, HR.out.2, by go_num, by rw [upto_succ]; exact hJ3, hK⟩
            case measure => simp [RowKit.intOf]; omega
          · gi_wp2
            refine bodyPost_ret (results_none rfl _ _ _) rfl ?_
            exact ⟨⟨_, rfl⟩, .inr ⟨_, ⟨k + 1, HR.out.2, (upto_succ _ _).symm⟩, hJx3⟩⟩
    · have hkm : k = segM l.length c := by
        have := segM_le l.length c
        have h1 : segM l.length c ≤ k := by omega
        omega
      gi_wp2
      go_end0
      exact ⟨⟨_, rfl⟩, .inl ⟨_, by rw [hkm], hJs⟩⟩

theorem segments_stops (F : Fence) (n : Nat) (hF : F.fn 142) (hro : F.round = none) (hn : 1 ≤ n) (Bs n₀ : Nat) (a : Option Addr) (cap : Nat) (l : List P2) (c : Bool) (h : errOf l = 0) (hl : l.length ≤ 64) (w : World)
    (hBs : w.cell? ⟨Bs, 0, none⟩ = some (.slice a l.length cap)) (hBc : w.cell? ⟨Bs + 1, 0, none⟩ = some (.bool c)) (hT : ∀ i, i < l.length → ∃ b o, a = some ⟨b, o, none⟩ ∧ b < n₀ ∧ w.cell? ⟨b, o + i * 2, none⟩ = some (.int .i64 (g2 l i).x) ∧ w.cell? ⟨b, o + i * 2 + 1, none⟩ = some (.int .i64 (g2 l i).y)) :
    SeqStopsK F n Tryz.prog 142 #[.pointer (some ⟨Bs, 0, none⟩), .pointer (some ⟨Bs + 1, 0, none⟩)] encS (Kep n₀ Bs) (fun ys => ys = upto (sq3 l h) (segM l.length c)) (fun pre => ∃ k, k ≤ segM l.length c ∧ pre = upto (sq3 l h) k) (segM l.length c) w := fun lp J Jx W hW hJ _ hY h0 =>
  segments1_in F n hF hro hn lp Bs n₀ W.heap.size a cap l c h hl J Jx hJ hY W (cell_to hBs hW) (cell_to hBc hW) (fun i hi => by
    obtain ⟨b, o, e, hb, c1, c2⟩ := hT i hi
    exact ⟨b, o, e, hb, cell_to c1 hW, cell_to c2 hW⟩) h0

end Go.Proofs.YtgdlfjofefhdoaaGreatDoor
