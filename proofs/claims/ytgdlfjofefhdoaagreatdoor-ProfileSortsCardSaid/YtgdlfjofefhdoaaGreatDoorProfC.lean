/- Package profile: order, nearest. -/
import Derived.Test.YtgdlfjofefhdoaaGreatDoorProfB
import Derived.Test.YtgdlfjofefhdoaaGreatDoorVecX
import Derived.Test.YtgdlfjofefhdoaaGreatDoorPapB
import Derived.Test.YtgdlfjofefhdoaaGreatDoorNearD
namespace Go.Proofs.YtgdlfjofefhdoaaGreatDoor
open Go.RowKit Go.Sort Go.Lib Go.Shelf Mb

attribute [local go_sem] Oper.semAt_some

/-- a distance: a right number of bounded size -/
structure Dst (n d : Int) : Prop where
  r : Rat2 n d
  n0 : 0 ≤ n
  n1 : n ≤ 10000000000000000000000
  d1 : d ≤ 80000000000

theorem dst_seg {p a b : P2} (hp : flatB p = true) (ha : flatB a = true) (hb : flatB b = true) : Dst (segN p a b) (segD p a b) := by
  have h := seg_bd (bd_flat hp) (bd_flat ha) (bd_flat hb)
  exact ⟨rat2_seg (bd_flat hp) (bd_flat ha) (bd_flat hb), h.1, h.2.1, h.2.2.2⟩

theorem dst_mul {n d m e : Int} (h : Dst n d) (k : Dst m e) : (dg (n * e)).length ≤ 900 := by
  have h1 := h.n0; have h2 := h.n1; have h3 := k.d1; have h4 := k.r.pos
  have hm := Mb.mul_bd (A := 10000000000000000000000) (C := 80000000000) (a := n) (b := e) (by omega) (by omega)
  generalize n * e = z at *
  have := dg_of_lt (n := z) (k := 37) (by omega) (by omega)
  omega

theorem order_calls (n d m e : Int) (w : World) (hg : Good w) (h : Dst n d) (k : Dst m e) :
    Calls Tryz.prog 103 #[R n d, R m e] w fun r w' => r = .returned (.int .i64 (cmp3 (n * e) (m * d))) ∧ Below w.heap.size w w' := by
  have H := rcompare_calls n d m e w hg h.r k.r (by have := dst_mul h k; omega) (by have := dst_mul k h; omega)
  clear h k hg
  go_enter Tryz.func103, Tryz.ntmps103
  go_wp2_with fail
  refine H.mono ?_
  rintro e w1 ⟨rfl, hb1⟩
  clear H
  go_wp2_with fail
  go_ret
  exact ⟨rfl, hb1⟩

/-- the nearest segment so far: its distance and index -/
def nstep (p : P2) (b : Option (Int × Int × Nat)) (x : Nat × P2 × P2) : Option (Int × Int × Nat) :=
  match b with
  | none => some (segN p x.2.1 x.2.2, segD p x.2.1 x.2.2, x.1)
  | some (n, d, i) => if segN p x.2.1 x.2.2 * d < n * segD p x.2.1 x.2.2 then some (segN p x.2.1 x.2.2, segD p x.2.1 x.2.2, x.1) else some (n, d, i)
def nfold (p : P2) (l : List E3) : Option (Int × Int × Nat) := (l.map fun x => x.1).foldl (nstep p) none
theorem nfold_snoc (p : P2) (l : List E3) (x : E3) : nfold p (l ++ [x]) = nstep p (nfold p l) x.1 := by simp [nfold]

def bV (b : Option (Int × Int × Nat)) : Value := match b with | none => .string ⟨#[]⟩ | some (n, d, _) => R n d
def aV (b : Option (Int × Int × Nat)) : Value := match b with | none => .int .i64 0 | some (_, _, i) => .int .i64 i
def okB (b : Option (Int × Int × Nat)) : Prop := match b with | none => True | some (n, d, i) => Dst n d ∧ i ≤ 64

theorem okB_step {p : P2} {b : Option (Int × Int × Nat)} {x : E3} (hp : flatB p = true) (h : okB b) : okB (nstep p b x.1) := by
  have hx := x.2
  have hd := dst_seg hp hx.2.1 hx.2.2
  match b with
  | none => exact ⟨hd, hx.1⟩
  | some (n, d, i) =>
    unfold nstep
    simp only
    split
    · exact ⟨hd, hx.1⟩
    · exact h

theorem blk_kept {A B : World} {row : Option Nat} {b : Nat} {cs : Array Value} {t : TypeId} (h : Blk A b cs t) (hg : A.grownBy B row) (hr : ∀ r, row = some r → ∃ o : Obj, A.heap[r]? = some o ∧ o.isCells = false) : Blk B b cs t := by
  unfold Blk at *
  rw [grownBy_keeps_cells hg hr h rfl]; exact h
theorem blk_other {W : World} {b B' : Nat} {cs : Array Value} {t : TypeId} {u : Value} (h : Blk W b cs t) (hne : b ≠ B') : Blk (W.setCell ⟨B', 0, none⟩ u) b cs t := by
  unfold Blk at *
  rw [(grownBy_setCell' W B' u).block b (Array.getElem?_eq_some_iff.1 h).1 (fun e => hne (by cases e; rfl))]
  exact h
theorem blk_set1 {W : World} {b : Nat} {u v : Value} {t : TypeId} (h : Blk W b #[u] t) : Blk (W.setCell ⟨b, 0, none⟩ v) b #[v] t := h.set 0 v

/-- the memory of 'nearest': the point, three results, the best distance and its index -/
structure NS (s : Nat) (p : P2) (bv av : Value) (W : World) : Prop where
  pt : Blk W s #[.int .i64 p.x, .int .i64 p.y] 23
  r1 : Blk W (s + 1) #[.string ⟨#[]⟩] 24
  r2 : Blk W (s + 1 + 1) #[.int .i64 0] 3
  r3 : Blk W (s + 1 + 1 + 1) #[.int .i64 0] 25
  bs : Blk W (s + 1 + 1 + 1 + 1) #[bv] 24
  ai : Blk W (s + 1 + 1 + 1 + 1 + 1) #[av] 3
theorem NS.kept {s : Nat} {p : P2} {bv av : Value} {A B : World} {row : Option Nat} (h : NS s p bv av A) (hg : A.grownBy B row) (hr : ∀ r, row = some r → ∃ o : Obj, A.heap[r]? = some o ∧ o.isCells = false) : NS s p bv av B :=
  ⟨blk_kept h.pt hg hr, blk_kept h.r1 hg hr, blk_kept h.r2 hg hr, blk_kept h.r3 hg hr, blk_kept h.bs hg hr, blk_kept h.ai hg hr⟩
theorem NS.to {s : Nat} {p : P2} {bv av : Value} {A B : World} (h : NS s p bv av A) (hb : Below A.heap.size A B) : NS s p bv av B :=
  ⟨h.pt.to hb, h.r1.to hb, h.r2.to hb, h.r3.to hb, h.bs.to hb, h.ai.to hb⟩
theorem NS.put {s : Nat} {p : P2} {bv av bv' av' : Value} {W : World} (h : NS s p bv av W) : NS s p bv' av' ((W.setCell ⟨s + 1 + 1 + 1 + 1, 0, none⟩ bv').setCell ⟨s + 1 + 1 + 1 + 1 + 1, 0, none⟩ av') :=
  ⟨blk_other (blk_other h.pt (by omega)) (by omega), blk_other (blk_other h.r1 (by omega)) (by omega), blk_other (blk_other h.r2 (by omega)) (by omega), blk_other (blk_other h.r3 (by omega)) (by omega),
    blk_other (blk_set1 h.bs) (by omega), blk_set1 (blk_other h.ai (by omega))⟩

theorem R_ne (n d : Int) (s : ByteArray) (hs : s = ⟨(rtxt n d).toArray⟩) : (s.toList == []) = false := by
  rw [hs, tl_bytes, beq_eq_false_iff_ne]
  unfold rtxt
  split
  · intro e; have := itoa_pos n; rw [e] at this; simp at this
  · intro e; simp at e

abbrev nWorld (w : World) (p : P2) : World := (((((w.alloc (B2 p 23)).alloc (.cells #[.string ⟨#[]⟩] 24)).alloc (.cells #[.int .i64 0] 3)).alloc (.cells #[.int .i64 0] 25)).alloc (.cells #[.string ⟨#[]⟩] 24)).alloc (.cells #[.int .i64 0] 3)
theorem nWorld_ok (w : World) (p : P2) : NS w.heap.size p (.string ⟨#[]⟩) (.int .i64 0) (nWorld w p) ∧ Below w.heap.size w (nWorld w p) ∧ (nWorld w p).heap.size = w.heap.size + 6 := by
  refine ⟨⟨?_, ?_, ?_, ?_, ?_, ?_⟩, ?_, ?_⟩
  · exact ((((((blk_new w _ _).to (alloc_below _ _)).to (alloc_below _ _)).to (alloc_below _ _)).to (alloc_below _ _)).to (alloc_below _ _))
  · have h := blk_new (w.alloc (B2 p 23)) #[.string ⟨#[]⟩] 24
    rw [size_alloc1] at h
    exact ((((h.to (alloc_below _ _)).to (alloc_below _ _)).to (alloc_below _ _)).to (alloc_below _ _))
  · have h := blk_new ((w.alloc (B2 p 23)).alloc (.cells #[.string ⟨#[]⟩] 24)) #[.int .i64 0] 3
    rw [size_alloc1, size_alloc1] at h
    exact (((h.to (alloc_below _ _)).to (alloc_below _ _)).to (alloc_below _ _))
  · have h := blk_new (((w.alloc (B2 p 23)).alloc (.cells #[.string ⟨#[]⟩] 24)).alloc (.cells #[.int .i64 0] 3)) #[.int .i64 0] 25
    rw [size_alloc1, size_alloc1, size_alloc1] at h
    exact ((h.to (alloc_below _ _)).to (alloc_below _ _))
  · have h := blk_new ((((w.alloc (B2 p 23)).alloc (.cells #[.string ⟨#[]⟩] 24)).alloc (.cells #[.int .i64 0] 3)).alloc (.cells #[.int .i64 0] 25)) #[.string ⟨#[]⟩] 24
    rw [size_alloc1, size_alloc1, size_alloc1, size_alloc1] at h
    exact (h.to (alloc_below _ _))
  · have h := blk_new (((((w.alloc (B2 p 23)).alloc (.cells #[.string ⟨#[]⟩] 24)).alloc (.cells #[.int .i64 0] 3)).alloc (.cells #[.int .i64 0] 25)).alloc (.cells #[.string ⟨#[]⟩] 24)) #[.int .i64 0] 3
    rw [size_alloc1, size_alloc1, size_alloc1, size_alloc1, size_alloc1] at h
    exact h
  · exact below_trans (below_trans (below_trans (below3 _ _ _ _) (alloc_below _ _)) (alloc_below _ _)) (alloc_below _ _)
  · simp

set_option maxRecDepth 100000 in
set_option maxHeartbeats 8000000 in
theorem pnear_calls (l : List P2) (a : Option Addr) (cap : Nat) (c : Bool) (p : P2) (w : World) (hg : Good w) (hT : Sl2 w a l) (hn : l.length ≤ 64) (he : errOf l = 0) (hp : flatB p = true) :
    Calls Tryz.prog 90 #[.slice a l.length cap, .bool c, V p] w fun e w' => e = .returned (.tuple #[bV (nfold p (upto (sq3 l he) (segM l.length c))), aV (nfold p (upto (sq3 l he) (segM l.length c))), .int .i64 0]) ∧ Below w.heap.size w w' := by
  obtain ⟨hN, hNb, hNs⟩ := nWorld_ok w p
  obtain ⟨V0, hV0⟩ : ∃ V0, V0 = nWorld w p := ⟨_, rfl⟩
  rw [← hV0] at hN hNb hNs
  refine (callsIn_wide (n := 10)).1 ?_
  refine callsIn_of_wp_marks Tryz.func90 rfl trivial ?_ rfl
  simp only [Tryz.ntmps90, List.size_toArray, List.length_cons, List.length_nil, Nat.reduceAdd, Nat.reduceSub, Array.replicate_succ, Array.replicate_zero, List.push_toArray, List.append_toArray, List.nil_append, List.cons_append]
  have f72 : Fence.wide.fn 94 := trivial
  have HN := Lib.hid (And.intro hN (And.intro hNb (And.intro hNs (And.intro hT (And.intro hg hp))))); clear hN hNb hNs hT hg hp
  gi_wp2_with (gi_at_call 94; refine (segments_in Fence.wide _ trivial rfl _ _ _ _ _).mono ?_; rintro e w2 ⟨rfl, rfl⟩)
  simp only [nWorld, B2] at hV0
  rw [← hV0]
  clear hV0
  obtain ⟨s, hs⟩ : ∃ s, s = w.heap.size := ⟨_, rfl⟩
  rw [← hs]
  rw [← hs] at HN
  have hB2 : Below V0.heap.size V0 ((V0.alloc (.cells #[.slice a l.length cap] 54)).alloc (.cells #[.bool c] 4)) := below2 _ _ _
  have hB0 := HN.out.2.1.trans (hB2.mono (by rw [HN.out.2.2.1]; omega))
  have hT1 := sl_low (W := (V0.alloc (.cells #[.slice a l.length cap] 54)).alloc (.cells #[.bool c] 4)) HN.out.2.2.2.1 (by rw [← hs]; exact hB0)
  have hcB := cell_to (cell_new V0 #[.slice a l.length cap] 54 0 _ rfl) (alloc_below _ (.cells #[.bool c] 4))
  have hcC := cell_new (V0.alloc (.cells #[.slice a l.length cap] 54)) #[.bool c] 4 0 _ rfl
  rw [size_alloc1] at hcC
  rw [HN.out.2.2.1] at hcB hcC
  have hN2 := HN.out.1.to hB2
  have hsz : ((V0.alloc (.cells #[.slice a l.length cap] 54)).alloc (.cells #[.bool c] 4)).heap.size = s + 8 := by simp [HN.out.2.2.1]
  obtain ⟨W0, hW0⟩ : ∃ W0, ((V0.alloc (.cells #[.slice a l.length cap] 54)).alloc (.cells #[.bool c] 4)) = W0 := ⟨_, rfl⟩
  rw [hW0] at hcB hcC hN2 hB0 hsz ⊢
  simp only [hW0] at hT1
  clear hW0 hB2
  have HK := Lib.hid (And.intro HN.out.2.2.2.1 (And.intro HN.out.2.2.2.2.1 HN.out.2.2.2.2.2))
  clear HN
  rw [← hs] at hT1
  have HS := Lib.hid hs
  have hle : s ≤ w.heap.size ∧ w.heap.size ≤ s := by omega
  obtain ⟨hle1, hle2⟩ := hle
  clear hs
  refine wpIn_rangeFunc_ownH rfl (by decide) (gf := 142) (lb := #[.pointer (some ⟨s + 6, 0, none⟩), .pointer (some ⟨s + 6 + 1, 0, none⟩)]) rfl trivial (enters_of Tryz.func142 (by kernel_rfl) rfl)
    (segments_stops Fence.wide 9 trivial rfl (by decide) (s + 6) s a cap l c he hn W0 hcB hcC hT1) (fun h k => kep_t h k) (fun W lp o o' _ h1 h2 _ => kep_b W lp o o' h1 h2) (Below.refl _ _) (fun _ => rfl)
    (fun pre W => (NS s p (bV (nfold p pre)) (aV (nfold p pre)) W ∧ okB (nfold p pre)) ∧ Below s w W)
    (fun _ _ _ => False)
    (OwnFrom.and (Own.from (fun st A B row hs hg hr => ⟨hs.1.kept hg hr, hs.2⟩) _) (ownFrom_below (by omega) (by omega)))
    (fun _ _ _ _ _ hs _ _ => hs)
    ⟨⟨hN2, trivial⟩, hB0⟩
    (fun x a' W => ∃ A, (s < A ∧ W.cell? ⟨A, 0, none⟩ = some (.int .i64 x.1.2.1.x) ∧ W.cell? ⟨A, 1, none⟩ = some (.int .i64 x.1.2.1.y) ∧ W.cell? ⟨A, 2, none⟩ = some (.int .i64 x.1.2.2.x) ∧ W.cell? ⟨A, 3, none⟩ = some (.int .i64 x.1.2.2.y)) ∧ a' = { tmps := #[.slice a l.length cap, .bool c, V p, undef, undef, .pointer (some ⟨s, 0, none⟩), .pointer (some ⟨s + 1, 0, none⟩), .pointer (some ⟨s + 1 + 1, 0, none⟩), .pointer (some ⟨s + 1 + 1 + 1, 0, none⟩), .pointer (some ⟨s + 1 + 1 + 1 + 1, 0, none⟩), .pointer (some ⟨s + 1 + 1 + 1 + 1 + 1, 0, none⟩), .int .i64 x.1.1, .pointer (some ⟨A, 0, none⟩), undef, undef, .slice a l.length cap, .bool c, .func (.func 142) #[] #[.pointer (some ⟨s + 6, 0, none⟩), .pointer (some ⟨s + 6 + 1, 0, none⟩)], .int .i64 x.1.1, V22 x.1.2.1 x.1.2.2, undef, undef, undef, undef, undef, undef, undef, undef, undef, undef, undef, undef, undef, undef, undef, undef, undef, undef, undef, undef, undef, undef, undef, undef], defers := [] })
    (fun x a' _ X Y row hs hg hr => by
      obtain ⟨A, ⟨k0, k1, k2, k3, k4⟩, h3⟩ := hs
      exact ⟨A, ⟨k0, cell_kept k1 hg (fun r e => (hr r e).2), cell_kept k2 hg (fun r e => (hr r e).2), cell_kept k3 hg (fun r e => (hr r e).2), cell_kept k4 hg (fun r e => (hr r e).2)⟩, h3⟩)
    ?assign ?body ?done ?stop
  case assign =>
    rintro lp pre x W K ⟨⟨hNS, hok⟩, hB1⟩ hK
    have hlt := hNS.pt.lt
    gi_wp2
    exact hK _ _ ((KeepsOthers.alloc _ _).from _) (kep_below (alloc_below _ _)) ⟨⟨hNS.to (alloc_below _ _), hok⟩, hB1.trans ((alloc_below _ _).mono (Nat.le_of_lt hlt))⟩
      ⟨W.heap.size, ⟨hlt, cell_new _ _ _ _ _ rfl, cell_new _ _ _ _ _ rfl, cell_new _ _ _ _ _ rfl, cell_new _ _ _ _ _ rfl⟩, rfl⟩
  case body =>
    rintro lp pre ⟨⟨i, u, v⟩, hx⟩ a' W hlp - ⟨⟨hNS, hok⟩, hB1⟩ ⟨A, ⟨-, k1, k2, k3, k4⟩, rfl⟩ hlt
    simp only at k1 k2 k3 k4 hx ⊢
    have f13 : Fence.wide.fn 13 := trivial
    have f103 : Fence.wide.fn 103 := trivial
    have hW : Good W := HK.out.2.1.below hB1 (by have := HK.out.2.1.size; omega)
    have hsW : s < W.heap.size := hNS.pt.lt
    have hx' := hx
    obtain ⟨hi64, hu, hv⟩ := hx'
    have HSEG := seg_calls p u v W hW HK.out.2.2 hu hv
    have hds := dst_seg HK.out.2.2 hu hv
    have hst := nfold_snoc p pre ⟨(i, u, v), hx⟩
    have hok2 := okB_step (p := p) (b := nfold p pre) (x := ⟨(i, u, v), hx⟩) HK.out.2.2 hok
    rw [← hst] at hok2
    obtain ⟨N, hN⟩ : ∃ N, segN p u v = N := ⟨_, rfl⟩
    obtain ⟨D, hD⟩ : ∃ N, segD p u v = N := ⟨_, rfl⟩
    rw [hN, hD] at HSEG hds
    have c1 := hNS.pt.c 0 _ rfl
    have c2 := hNS.pt.c 1 _ rfl
    cases hnf : nfold p pre with
    | none =>
      rw [hnf] at hNS hst
      have hst' : nfold p (pre ++ [⟨(i, u, v), hx⟩]) = some (N, D, i) := by rw [hst, ← hN, ← hD]; rfl
      have HP := Lib.hid (And.intro hNS (And.intro hB1 (And.intro hW (And.intro hok2 (And.intro hst' HSEG)))))
      clear hNS hB1 hW hok hok2 hst hst' HSEG hN hD hnf hds hu hv hi64
      gi_wp2_with fail
      refine (CallsIn.inRound lp (callsIn_wide.2 HP.out.2.2.2.2.2)).mono ?_
      rintro e W1 ⟨rfl, hb1⟩
      clear c1 c2 k1 k2 k3 k4
      have hNS1 := HP.out.1.to hb1
      have d1 := hNS1.bs.c 0 _ rfl
      have d2 := hNS1.bs.free 0
      have d3 := hNS1.ai.c 0 _ rfl
      have d4 := hNS1.ai.free 0
      simp only [bV, aV] at d1 d3
      have HQ := Lib.hid (And.intro hNS1 hb1); clear hNS1 hb1
      gi_wp2_with fail
      exact ⟨((KeepsFrom.of_grownBy (row := none) (gb_below HQ.out.2) (fun j e => by cases e)).trans ((KeepsOthers.setCell _ _ _).from _)).trans ((KeepsOthers.setCell _ _ _).from _), kep_t (kep_below HQ.out.2) (kep_t (kep_set (by omega) (by omega) (by omega)) (kep_set (by omega) (by omega) (by omega))),
        ⟨by rw [HP.out.2.2.2.2.1]; exact HQ.out.1.put, HP.out.2.2.2.1⟩, ((HP.out.2.1.trans (HQ.out.2.mono (Nat.le_of_lt hsW))).setCell (p := ⟨s + 1 + 1 + 1 + 1, 0, none⟩) (by show s ≤ s + 1 + 1 + 1 + 1; omega) _).setCell (p := ⟨s + 1 + 1 + 1 + 1 + 1, 0, none⟩) (by show s ≤ s + 1 + 1 + 1 + 1 + 1; omega) _⟩
    | some b =>
      obtain ⟨n, d, j⟩ := b
      rw [hnf] at hNS hst hok
      obtain ⟨hdn, hj⟩ := hok
      obtain ⟨sx, hsx⟩ : ∃ s : ByteArray, s = ⟨(rtxt n d).toArray⟩ := ⟨_, rfl⟩
      have hne := R_ne n d sx hsx
      have hne2 : ¬ sx.toList = [] := by simpa using hne
      have eR : R n d = .string sx := by rw [hsx]
      have HO : ∀ w, Good w → Calls Tryz.prog 103 #[R N D, .string sx] w fun e w' => e = .returned (.int .i64 (cmp3 (N * d) (n * D))) ∧ Below w.heap.size w w' := by
        rw [← eR]; exact fun w hg => order_calls N D n d w hg hds hdn
      have hbV : bV (some (n, d, j)) = .string sx := eR
      rw [hbV] at hNS
      by_cases hlt2 : N * d < n * D
      · have hst' : nfold p (pre ++ [⟨(i, u, v), hx⟩]) = some (N, D, i) := by
          rw [hst]; unfold nstep; simp only [hN, hD]; rw [if_pos hlt2]
        rw [show cmp3 (N * d) (n * D) = -1 by unfold cmp3; rw [if_pos hlt2]] at HO
        have HP := Lib.hid (And.intro hNS (And.intro hB1 (And.intro hW (And.intro hok2 (And.intro hst' (And.intro HSEG HO))))))
        clear hNS hB1 hW hdn hok2 hst hst' HSEG HO hN hD hnf hds hu hv hi64 hlt2 eR hbV hsx hj
        gi_wp2_with fail
        refine (CallsIn.inRound lp (callsIn_wide.2 HP.out.2.2.2.2.2.1)).mono ?_
        rintro e W1 ⟨rfl, hb1⟩
        clear c1 c2 k1 k2 k3 k4
        have hNS1 := HP.out.1.to hb1
        have d1 := hNS1.bs.c 0 _ rfl
        have HQ := Lib.hid (And.intro hNS1 hb1); clear hNS1 hb1
        gi_wp2_with fail
        refine (CallsIn.inRound lp (callsIn_wide.2 (HP.out.2.2.2.2.2.2 _ (HP.out.2.2.1.to HQ.out.2)))).mono ?_
        rintro e W2 ⟨rfl, hb2⟩
        have hNS2 := HQ.out.1.to hb2
        clear d1
        have d1 := hNS2.bs.c 0 _ rfl
        have d2 := hNS2.bs.free 0
        have d3 := hNS2.ai.c 0 _ rfl
        have d4 := hNS2.ai.free 0
        simp only [aV] at d3
        have HQ2 := Lib.hid (And.intro hNS2 (below_trans HQ.out.2 hb2)); clear hNS2 hb2 HQ
        gi_wp2_with fail
        exact ⟨((KeepsFrom.of_grownBy (row := none) (gb_below HQ2.out.2) (fun j e => by cases e)).trans ((KeepsOthers.setCell _ _ _).from _)).trans ((KeepsOthers.setCell _ _ _).from _), kep_t (kep_below HQ2.out.2) (kep_t (kep_set (by omega) (by omega) (by omega)) (kep_set (by omega) (by omega) (by omega))),
          ⟨by rw [HP.out.2.2.2.2.1]; exact HQ2.out.1.put, HP.out.2.2.2.1⟩, ((HP.out.2.1.trans (HQ2.out.2.mono (Nat.le_of_lt hsW))).setCell (p := ⟨s + 1 + 1 + 1 + 1, 0, none⟩) (by show s ≤ s + 1 + 1 + 1 + 1; omega) _).setCell (p := ⟨s + 1 + 1 + 1 + 1 + 1, 0, none⟩) (by show s ≤ s + 1 + 1 + 1 + 1 + 1; omega) _⟩
      · have hst' : nfold p (pre ++ [⟨(i, u, v), hx⟩]) = some (n, d, j) := by
          rw [hst]; unfold nstep; simp only [hN, hD]; rw [if_neg hlt2]
        obtain ⟨o, ho⟩ : ∃ o, cmp3 (N * d) (n * D) = o := ⟨_, rfl⟩
        have hcb := cmp3_bd (N * d) (n * D)
        have ho0 : ¬ o < 0 := by rw [← ho]; unfold cmp3; rw [if_neg hlt2]; split <;> omega
        rw [ho] at HO hcb
        have ho1 : decide (o < 0) = false := decide_eq_false ho0
        have HP := Lib.hid (And.intro hNS (And.intro hB1 (And.intro hW (And.intro hok2 (And.intro hst' (And.intro HSEG (And.intro HO hbV)))))))
        clear hNS hB1 hW hdn hok2 hst hst' HSEG HO hN hD hnf hds hu hv hi64 hlt2 eR hbV hsx hj ho ho0
        gi_wp2_with fail
        refine (CallsIn.inRound lp (callsIn_wide.2 HP.out.2.2.2.2.2.1)).mono ?_
        rintro e W1 ⟨rfl, hb1⟩
        clear c1 c2 k1 k2 k3 k4
        have hNS1 := HP.out.1.to hb1
        have d1 := hNS1.bs.c 0 _ rfl
        have HQ := Lib.hid (And.intro hNS1 hb1); clear hNS1 hb1
        gi_wp2_with fail
        refine (CallsIn.inRound lp (callsIn_wide.2 (HP.out.2.2.2.2.2.2.1 _ (HP.out.2.2.1.to HQ.out.2)))).mono ?_
        rintro e W2 ⟨rfl, hb2⟩
        have HQ2 := Lib.hid (And.intro (HQ.out.1.to hb2) (below_trans HQ.out.2 hb2)); clear hb2 HQ d1
        gi_wp2_with fail
        exact ⟨KeepsFrom.of_grownBy (row := none) (gb_below HQ2.out.2) (fun j e => by cases e), kep_below HQ2.out.2,
          ⟨by rw [HP.out.2.2.2.2.1, HP.out.2.2.2.2.2.2.2]; exact HQ2.out.1, HP.out.2.2.2.1⟩, HP.out.2.1.trans (HQ2.out.2.mono (Nat.le_of_lt hsW))⟩
  case done =>
    rintro D xs W hD rfl ⟨⟨hNS, hok⟩, hB1⟩ hK
    obtain ⟨bs, hbv⟩ : ∃ s, bV (nfold p (upto (sq3 l he) (segM l.length c))) = .string s := by
      cases nfold p (upto (sq3 l he) (segM l.length c)) with
      | none => exact ⟨_, rfl⟩
      | some b => exact ⟨_, rfl⟩
    obtain ⟨aj, hav⟩ : ∃ j, aV (nfold p (upto (sq3 l he) (segM l.length c))) = .int .i64 j := by
      cases nfold p (upto (sq3 l he) (segM l.length c)) with
      | none => exact ⟨_, rfl⟩
      | some b => exact ⟨_, rfl⟩
    rw [hbv, hav] at hNS
    have hmx : Tryz.prog.follows .mixedOrders = true := follows
    have HP := Lib.hid (And.intro hNS (And.intro hB1 (And.intro hK (And.intro hbv hav))))
    clear hNS hB1 hbv hav hok
    have z1 := HP.out.1.r1.free 0
    have z2 := HP.out.1.r2.free 0
    have z3 := HP.out.1.r3.free 0
    have y1 := HP.out.1.r1.c 0 _ rfl
    have y2 := HP.out.1.r2.c 0 _ rfl
    have y3 := HP.out.1.r3.c 0 _ rfl
    have z4 := HP.out.1.bs.c 0 _ rfl
    have z5 := HP.out.1.ai.c 0 _ rfl
    gi_wp2_with fail
    gi_region
    gi_wp2
    have hK2 : ((((W.setCell ⟨s + 1, 0, none⟩ (.string bs)).setCell ⟨s + 1 + 1, 0, none⟩ (.int .i64 aj)).setCell ⟨s + 1 + 1 + 1, 0, none⟩ (.int .i64 0)).drew).heap[D]? = some (.deferred (some [])) :=
      (KeepsOthers.setCell _ _ _).same D _ ((KeepsOthers.setCell _ _ _).same D _ ((KeepsOthers.setCell _ _ _).same D _ HP.out.2.2.1 rfl) rfl) rfl
    have x1 := (blk_other (B' := s + 1 + 1 + 1) (u := .int .i64 0) (blk_other (B' := s + 1 + 1) (u := .int .i64 aj) (blk_set1 (v := .string bs) HP.out.1.r1) (by omega)) (by omega)).c 0 _ rfl
    have x2 := (blk_other (B' := s + 1 + 1 + 1) (u := .int .i64 0) (blk_set1 (v := .int .i64 aj) (blk_other (B' := s + 1) (u := .string bs) HP.out.1.r2 (by omega))) (by omega)).c 0 _ rfl
    have x3 := (blk_set1 (v := .int .i64 0) (blk_other (B' := s + 1 + 1) (u := .int .i64 aj) (blk_other (B' := s + 1) (u := .string bs) HP.out.1.r3 (by omega)) (by omega))).c 0 _ rfl
    have hB2 := (((HP.out.2.1.setCell (p := ⟨s + 1, 0, none⟩) (by show s ≤ s + 1; omega) (.string bs)).setCell (p := ⟨s + 1 + 1, 0, none⟩) (by show s ≤ s + 1 + 1; omega) (.int .i64 aj)).setCell (p := ⟨s + 1 + 1 + 1, 0, none⟩) (by show s ≤ s + 1 + 1 + 1; omega) (.int .i64 0))
    have hB3 := below_drewN hB2 1
    rw [← World.drew_is_drewN] at hB3
    refine ⟨by simp, .inl ⟨_, _, rfl, run_takeDeferred hK2, ?_⟩⟩
    have w1 := cell_kept (cell_to x1 (bel_dn _ 1)) (grownBy_putObj' _ D (.deferred none)) (fun r e => by cases e; exact ⟨_, hK2, rfl⟩)
    have w2 := cell_kept (cell_to x2 (bel_dn _ 1)) (grownBy_putObj' _ D (.deferred none)) (fun r e => by cases e; exact ⟨_, hK2, rfl⟩)
    have w3 := cell_kept (cell_to x3 (bel_dn _ 1)) (grownBy_putObj' _ D (.deferred none)) (fun r e => by cases e; exact ⟨_, hK2, rfl⟩)
    rw [← World.drew_is_drewN] at w1 w2 w3
    refine ⟨.tuple #[.string bs, .int .i64 aj, .int .i64 0], by simp [results, Tryz.results90, go_sem, w1, w2, w3], by rw [HP.out.2.2.2.1, HP.out.2.2.2.2], ?_⟩
    rw [← HS.out]
    exact hB3.trans (belowK_b (w := w) (by omega) _ D _ _ (by omega) hK2 rfl rfl)
  case stop =>
    rintro D c pre W _ _ h _
    exact h.elim

end Go.Proofs.YtgdlfjofefhdoaaGreatDoor
