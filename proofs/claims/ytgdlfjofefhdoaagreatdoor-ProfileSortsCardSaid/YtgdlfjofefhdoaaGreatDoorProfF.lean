/- Package profile: location, Inside. -/
import Derived.Test.YtgdlfjofefhdoaaGreatDoorProfE
namespace Go.Proofs.YtgdlfjofefhdoaaGreatDoor
open Go.RowKit Go.Sort Go.Lib Go.Shelf Mb

attribute [local go_sem] Oper.semAt_some

/-- the side so far -/
def lstep (p : P2) (b : Int) (x : Nat × P2 × P2) : Int := if crX x.2.1 x.2.2 p = true then -b else b
def lfold (p : P2) (l : List E3) : Int := (l.map fun x => x.1).foldl (lstep p) (-1)
theorem lfold_snoc (p : P2) (l : List E3) (x : E3) : lfold p (l ++ [x]) = lstep p (lfold p l) x.1 := by simp [lfold]
theorem lfold_bd (p : P2) (l : List E3) : lfold p l = 1 ∨ lfold p l = -1 := by
  have : ∀ (L : List E3) (b : Int), (b = 1 ∨ b = -1) → ((L.map fun x => x.1).foldl (lstep p) b = 1 ∨ (L.map fun x => x.1).foldl (lstep p) b = -1) := fun L => by
    induction L with
    | nil => exact fun _ h => h
    | cons x L ih => exact fun b hb => ih _ (by unfold lstep; split <;> omega)
  exact this l (-1) (.inr rfl)

/-- the memory of 'location': the point, the side -/
structure LS (s : Nat) (p : P2) (b : Int) (W : World) : Prop where
  pt : Blk W s #[.int .i64 p.x, .int .i64 p.y] 23
  sd : Blk W (s + 1) #[.int .i64 b] 3
theorem LS.kept {s : Nat} {p : P2} {b : Int} {A B : World} {row : Option Nat} (h : LS s p b A) (hg : A.grownBy B row) (hr : ∀ r, row = some r → ∃ o : Obj, A.heap[r]? = some o ∧ o.isCells = false) : LS s p b B :=
  ⟨blk_kept h.pt hg hr, blk_kept h.sd hg hr⟩
theorem LS.to {s : Nat} {p : P2} {b : Int} {A B : World} (h : LS s p b A) (hb : Below A.heap.size A B) : LS s p b B :=
  ⟨h.pt.to hb, h.sd.to hb⟩
theorem LS.put {s : Nat} {p : P2} {b b' : Int} {W : World} (h : LS s p b W) : LS s p b' (W.setCell ⟨s + 1, 0, none⟩ (.int .i64 b')) :=
  ⟨blk_other h.pt (by omega), blk_set1 h.sd⟩

abbrev lWorld (w : World) (p : P2) : World := (w.alloc (B2 p 23)).alloc (.cells #[.int .i64 (-1)] 3)
theorem lWorld_ok (w : World) (p : P2) : LS w.heap.size p (-1) (lWorld w p) ∧ Below w.heap.size w (lWorld w p) ∧ (lWorld w p).heap.size = w.heap.size + 2 := by
  refine ⟨⟨?_, ?_⟩, ?_, ?_⟩
  · exact (blk_new w _ _).to (alloc_below _ _)
  · have h := blk_new (w.alloc (B2 p 23)) #[.int .i64 (-1)] 3
    rw [size_alloc1] at h
    exact h
  · exact below2 _ _ _
  · simp

set_option maxRecDepth 100000 in
set_option maxHeartbeats 8000000 in
theorem plocs_calls (l : List P2) (a : Option Addr) (cap : Nat) (p : P2) (sx : ByteArray) (h0 : (sx.toList == [48]) = false) (w : World) (hT : Sl2 w a l) (hn : l.length ≤ 64) (he : errOf l = 0) (hp : flatB p = true) :
    Calls Tryz.prog 86 #[.slice a l.length cap, V p, .string sx] w fun e w' => e = .returned (.int .i64 (lfold p (upto (sq3 l he) l.length))) ∧ Below w.heap.size w w' := by
  obtain ⟨hN, hNb, hNs⟩ := lWorld_ok w p
  obtain ⟨V0, hV0⟩ : ∃ V0, V0 = lWorld w p := ⟨_, rfl⟩
  rw [← hV0] at hN hNb hNs
  refine (callsIn_wide (n := 10)).1 ?_
  refine callsIn_of_wp_marks Tryz.func86 rfl trivial ?_ rfl
  simp only [Tryz.ntmps86, List.size_toArray, List.length_cons, List.length_nil, Nat.reduceAdd, Nat.reduceSub, Array.replicate_succ, Array.replicate_zero, List.push_toArray, List.append_toArray, List.nil_append, List.cons_append]
  have f72 : Fence.wide.fn 94 := trivial
  have h0' : ¬ sx.toList = [48] := by simpa using h0
  have HN := Lib.hid (And.intro hN (And.intro hNb (And.intro hNs (And.intro hT hp)))); clear hN hNb hNs hT hp
  gi_wp2_with (gi_at_call 94; refine (segments_in Fence.wide _ trivial rfl _ _ _ _ _).mono ?_; rintro e w2 ⟨rfl, rfl⟩)
  simp only [lWorld, B2] at hV0
  rw [← hV0]
  clear hV0
  obtain ⟨s, hs⟩ : ∃ s, s = w.heap.size := ⟨_, rfl⟩
  rw [← hs]
  rw [← hs] at HN
  have hB2 : Below V0.heap.size V0 ((V0.alloc (.cells #[.slice a l.length cap] 54)).alloc (.cells #[.bool true] 4)) := below2 _ _ _
  have hB0 := HN.out.2.1.trans (hB2.mono (by rw [HN.out.2.2.1]; omega))
  have hT1 := sl_low (W := (V0.alloc (.cells #[.slice a l.length cap] 54)).alloc (.cells #[.bool true] 4)) HN.out.2.2.2.1 (by rw [← hs]; exact hB0)
  have hcB := cell_to (cell_new V0 #[.slice a l.length cap] 54 0 _ rfl) (alloc_below _ (.cells #[.bool true] 4))
  have hcC := cell_new (V0.alloc (.cells #[.slice a l.length cap] 54)) #[.bool true] 4 0 _ rfl
  rw [size_alloc1] at hcC
  rw [HN.out.2.2.1] at hcB hcC
  have hN2 := HN.out.1.to hB2
  have hsz : ((V0.alloc (.cells #[.slice a l.length cap] 54)).alloc (.cells #[.bool true] 4)).heap.size = s + 4 := by simp [HN.out.2.2.1]
  obtain ⟨W0, hW0⟩ : ∃ W0, ((V0.alloc (.cells #[.slice a l.length cap] 54)).alloc (.cells #[.bool true] 4)) = W0 := ⟨_, rfl⟩
  rw [hW0] at hcB hcC hN2 hB0 hsz ⊢
  simp only [hW0] at hT1
  clear hW0 hB2
  have HK := Lib.hid (And.intro HN.out.2.2.2.1 HN.out.2.2.2.2)
  clear HN
  rw [← hs] at hT1
  have HS := Lib.hid hs
  have hle : s ≤ w.heap.size ∧ w.heap.size ≤ s := by omega
  obtain ⟨hle1, hle2⟩ := hle
  clear hs
  refine wpIn_rangeFunc_ownH rfl (by decide) (gf := 142) (lb := #[.pointer (some ⟨s + 2, 0, none⟩), .pointer (some ⟨s + 2 + 1, 0, none⟩)]) rfl trivial (enters_of Tryz.func142 (by kernel_rfl) rfl)
    (segments_stops Fence.wide 9 trivial rfl (by decide) (s + 2) s a cap l true he hn W0 hcB hcC hT1) (fun h k => kep_t h k) (fun W lp o o' _ h1 h2 _ => kep_b W lp o o' h1 h2) (Below.refl _ _) (fun _ => rfl)
    (fun pre W => LS s p (lfold p pre) W ∧ Below s w W)
    (fun _ _ _ => False)
    (OwnFrom.and (Own.from (fun st A B row hs hg hr => hs.kept hg hr) _) (ownFrom_below (by omega) (by omega)))
    (fun _ _ _ _ _ hs _ _ => hs)
    ⟨hN2, hB0⟩
    (fun x a' W => ∃ A, (s < A ∧ W.cell? ⟨A, 0, none⟩ = some (.int .i64 x.1.2.1.x) ∧ W.cell? ⟨A, 1, none⟩ = some (.int .i64 x.1.2.1.y) ∧ W.cell? ⟨A, 2, none⟩ = some (.int .i64 x.1.2.2.x) ∧ W.cell? ⟨A, 3, none⟩ = some (.int .i64 x.1.2.2.y)) ∧ a' = { tmps := #[.slice a l.length cap, V p, .string sx, undef, .pointer (some ⟨s, 0, none⟩), undef, .int .i64 0, .pointer (some ⟨s + 1, 0, none⟩), undef, .pointer (some ⟨A, 0, none⟩), .string sx, .bool false, .slice a l.length cap, .func (.func 142) #[] #[.pointer (some ⟨s + 2, 0, none⟩), .pointer (some ⟨s + 2 + 1, 0, none⟩)], .int .i64 x.1.1, V22 x.1.2.1 x.1.2.2, undef, undef, undef, undef, undef, undef], defers := [] })
    (fun x a' _ X Y row hs hg hr => by
      obtain ⟨A, ⟨k0, k1, k2, k3, k4⟩, h3⟩ := hs
      exact ⟨A, ⟨k0, cell_kept k1 hg (fun r e => (hr r e).2), cell_kept k2 hg (fun r e => (hr r e).2), cell_kept k3 hg (fun r e => (hr r e).2), cell_kept k4 hg (fun r e => (hr r e).2)⟩, h3⟩)
    ?assign ?body ?done ?stop
  case assign =>
    rintro lp pre x W K ⟨hNS, hB1⟩ hK
    have hlt := hNS.pt.lt
    gi_wp2
    exact hK _ _ ((KeepsOthers.alloc _ _).from _) (kep_below (alloc_below _ _)) ⟨hNS.to (alloc_below _ _), hB1.trans ((alloc_below _ _).mono (Nat.le_of_lt hlt))⟩
      ⟨W.heap.size, ⟨hlt, cell_new _ _ _ _ _ rfl, cell_new _ _ _ _ _ rfl, cell_new _ _ _ _ _ rfl, cell_new _ _ _ _ _ rfl⟩, rfl⟩
  case body =>
    rintro lp pre ⟨⟨i, u, v⟩, hx⟩ a' W hlp - ⟨hNS, hB1⟩ ⟨A, ⟨-, k1, k2, k3, k4⟩, rfl⟩ hlt
    simp only at k1 k2 k3 k4 hx ⊢
    have f138 : Fence.wide.fn 138 := trivial
    have hsW : s < W.heap.size := hNS.pt.lt
    have hx' := hx
    obtain ⟨hi64, hu, hv⟩ := hx'
    have HC := crossed_calls u v p W (bd_flat hu) (bd_flat hv) (bd_flat HK.out.2)
    have hst := lfold_snoc p pre ⟨(i, u, v), hx⟩
    have hbd := lfold_bd p pre
    obtain ⟨b, hb⟩ : ∃ b, lfold p pre = b := ⟨_, rfl⟩
    rw [hb] at hNS hst hbd
    have hb1 : -1 ≤ b ∧ b ≤ 1 := by omega
    obtain ⟨hb1, hb2⟩ := hb1
    have c1 := hNS.pt.c 0 _ rfl
    have c2 := hNS.pt.c 1 _ rfl
    have c3 := hNS.sd.c 0 _ rfl
    cases hcx : crX u v p with
    | true =>
      rw [hcx] at HC
      have hst' : lfold p (pre ++ [⟨(i, u, v), hx⟩]) = -b := by rw [hst]; unfold lstep; simp only [hcx]; rfl
      have HP := Lib.hid (And.intro hNS (And.intro hB1 (And.intro hst' HC)))
      clear hNS hB1 hst hst' HC hu hv hi64 hcx hbd hb
      gi_wp2_with fail
      refine (CallsIn.inRound lp (callsIn_wide.2 HP.out.2.2.2)).mono ?_
      rintro e W1 ⟨rfl, hb1⟩
      clear c1 c2 c3 k1 k2 k3 k4
      have hNS1 := HP.out.1.to hb1
      have d1 := hNS1.sd.c 0 _ rfl
      have d2 := hNS1.sd.free 0
      have HQ := Lib.hid (And.intro hNS1 hb1); clear hNS1 hb1
      gi_wp2_with fail
      exact ⟨(KeepsFrom.of_grownBy (row := none) (gb_below HQ.out.2) (fun j e => by cases e)).trans ((KeepsOthers.setCell _ _ _).from _), kep_t (kep_below HQ.out.2) (kep_set (by omega) (by omega) (by omega)),
        by rw [HP.out.2.2.1]; exact HQ.out.1.put, (HP.out.2.1.trans (HQ.out.2.mono (Nat.le_of_lt hsW))).setCell (p := ⟨s + 1, 0, none⟩) (by show s ≤ s + 1; omega) _⟩
    | false =>
      rw [hcx] at HC
      have hst' : lfold p (pre ++ [⟨(i, u, v), hx⟩]) = b := by rw [hst]; unfold lstep; simp only [hcx]; rfl
      have HP := Lib.hid (And.intro hNS (And.intro hB1 (And.intro hst' HC)))
      clear hNS hB1 hst hst' HC hu hv hi64 hcx hbd hb
      gi_wp2_with fail
      refine (CallsIn.inRound lp (callsIn_wide.2 HP.out.2.2.2)).mono ?_
      rintro e W1 ⟨rfl, hb1⟩
      clear c1 c2 c3 k1 k2 k3 k4
      have HQ := Lib.hid (And.intro (HP.out.1.to hb1) hb1); clear hb1
      gi_wp2_with fail
      exact ⟨KeepsFrom.of_grownBy (row := none) (gb_below HQ.out.2) (fun j e => by cases e), kep_below HQ.out.2,
        by rw [HP.out.2.2.1]; exact HQ.out.1, HP.out.2.1.trans (HQ.out.2.mono (Nat.le_of_lt hsW))⟩
  case done =>
    rintro D xs W hD rfl ⟨hNS, hB1⟩ hK
    have c3 := hNS.sd.c 0 _ rfl
    have HP := Lib.hid (And.intro hNS (And.intro hB1 hK))
    clear hNS hB1
    gi_wp2_with fail
    refine ⟨by simp, .inl ⟨_, _, rfl, run_takeDeferred hK, ?_⟩⟩
    refine ⟨.int .i64 (lfold p (upto (sq3 l he) (segM l.length true))), by simp [results, Tryz.results86, go_sem], rfl, ?_⟩
    rw [← HS.out]
    exact HP.out.2.1.trans (belowK_b (w := w) (by omega) _ D _ _ (by omega) hK rfl rfl)
  case stop =>
    rintro D c pre W _ _ h _
    exact h.elim

theorem plocz_calls (l : List P2) (a : Option Addr) (cap : Nat) (p : P2) (sx : ByteArray) (h0 : (sx.toList == [48]) = true) (w : World) :
    Calls Tryz.prog 86 #[.slice a l.length cap, V p, .string sx] w fun e w' => e = .returned (.int .i64 0) ∧ Below w.heap.size w w' := by
  have h0' : sx.toList = [48] := by simpa using h0
  go_enter Tryz.func86, Tryz.ntmps86
  go_wp2_with fail
  go_ret
  exact ⟨rfl, alloc_below _ _⟩

/-- whether a distance is 0, and the location -/
def isZ (b : Option (Int × Int × Nat)) : Bool := match b with | none => false | some (n, d, _) => rtxt n d == [48]
def locV (l : List P2) (p : P2) : Int := if isZ (nrst l true p) = true then 0 else if h : errOf l = 0 then lfold p (upto (sq3 l h) l.length) else 0

theorem nrst_some {l : List P2} {c : Bool} {p : P2} (h : pErr l c = 0) : ∃ b, nrst l c p = some b := by
  obtain ⟨h1, h2, h3, h4, -⟩ := pErr_ok h
  have hm : 0 < segM l.length c := by unfold segM; split <;> omega
  unfold nrst
  rw [dif_pos h2]
  have h5 : (upto (sq3 l h2) (segM l.length c)).length = segM l.length c := upto_length _ _
  generalize upto (sq3 l h2) (segM l.length c) = L at h5
  obtain ⟨M, x, rfl⟩ : ∃ M x, L = M ++ [x] := ⟨L.dropLast, L.getLast (by intro e; rw [e] at h5; simp at h5; omega), (List.dropLast_concat_getLast _).symm⟩
  rw [nfold_snoc]
  unfold nstep
  split
  · exact ⟨_, rfl⟩
  · split <;> exact ⟨_, rfl⟩

theorem ploc_calls (l : List P2) (a : Option Addr) (cap : Nat) (p : P2) (w : World) (hT : Sl2 w a l) (he : pErr l true = 0) (hp : flatB p = true) :
    Calls Tryz.prog 86 #[.slice a l.length cap, V p, bV (nrst l true p)] w fun e w' => e = .returned (.int .i64 (locV l p)) ∧ Below w.heap.size w w' := by
  obtain ⟨h1, h2, h3, h4, -⟩ := pErr_ok he
  obtain ⟨⟨n, d, j⟩, hb⟩ := nrst_some (p := p) he
  unfold locV
  rw [hb]
  obtain ⟨sx, hsx⟩ : ∃ s : ByteArray, s = ⟨(rtxt n d).toArray⟩ := ⟨_, rfl⟩
  have e1 : bV (some (n, d, j)) = .string sx := by rw [hsx]; rfl
  have e2 : (sx.toList == [48]) = isZ (some (n, d, j)) := by rw [hsx, tl_bytes]; rfl
  rw [e1]
  cases hz : isZ (some (n, d, j)) with
  | true =>
    rw [if_pos rfl]
    exact plocz_calls l a cap p sx (e2.trans hz) w
  | false =>
    rw [if_neg (by simp), dif_pos h2]
    exact plocs_calls l a cap p sx (e2.trans hz) w hT h1 h2 hp

/-- what Inside answers -/
def inV (l : List P2) (p : P2) : Int := if nErr l true p = 0 then locV l p else 0

set_option maxRecDepth 100000 in
set_option maxHeartbeats 4000000 in
theorem pInside_calls (l : List P2) (a : Option Addr) (cap : Nat) (p : P2) (w : World) (hg : Good w) (hT : Sl2 w a l) (hn : l.length ≤ 1000000) :
    Calls Tryz.prog 32 #[.slice a l.length cap, V p] w fun e w' => e = .returned (.tuple #[.int .i64 (inV l p), .int .i64 (nErr l true p)]) ∧ Below w.heap.size w w' := by
  have hal := alloc_below w (B2 p 23)
  have HC := pNearest_calls l a cap true p (w.alloc (B2 p 23)) (hg.to hal) (hT.to hal) hn
  have hx := blk_new w #[.int .i64 p.x, .int .i64 p.y] 23
  unfold inV
  by_cases hE : nErr l true p = 0
  · have hpe : pErr l true = 0 ∧ flatB p = true := by
      unfold nErr at hE
      split at hE
      · rename_i h
        split at hE
        · rename_i h2; exact ⟨h, h2⟩
        · cases hE
      · rename_i h; exact absurd hE h
    have hv : nV l true p = bV (nrst l true p) := by unfold nV; rw [if_pos hE]
    have HL := fun W hT => ploc_calls l a cap p W hT hpe.1 hpe.2
    rw [hv, hE] at HC
    rw [if_pos hE, hE]
    obtain ⟨sx, hsx⟩ : ∃ s, bV (nrst l true p) = .string s := by
      obtain ⟨b, hb⟩ := nrst_some (p := p) hpe.1
      rw [hb]; exact ⟨_, rfl⟩
    rw [hsx] at HC HL
    obtain ⟨iv, hiv⟩ : ∃ v, nI l true p = v := ⟨_, rfl⟩
    rw [hiv] at HC
    generalize locV l p = lv at HL ⊢
    have H := Lib.hid (And.intro hg (And.intro hT (And.intro hal (And.intro hx (And.intro HC HL)))))
    clear hg hT hal hx HC HL hv hpe hE hsx hiv
    go_enter Tryz.func32, Tryz.ntmps32
    go_wp2_with fail
    refine H.out.2.2.2.2.1.mono ?_
    rintro e w1 ⟨rfl, hb1⟩
    have g1 := H.out.2.2.2.1.to hb1
    have c1 := g1.c 0 _ rfl
    have c2 := g1.c 1 _ rfl
    have HQ := Lib.hid (below_trans H.out.2.2.1 hb1); clear g1 hb1
    go_wp2_with fail
    refine (H.out.2.2.2.2.2 _ (H.out.2.1.to HQ.out)).mono ?_
    rintro e w2 ⟨rfl, hb2⟩
    go_wp2_with fail
    go_ret2
    exact ⟨rfl, below_trans HQ.out hb2⟩
  · have hv : nV l true p = .string ⟨#[]⟩ := by unfold nV; rw [if_neg hE]
    have hi : nI l true p = .int .i64 0 := by unfold nI; rw [if_neg hE]
    rw [if_neg hE]
    rw [hv, hi] at HC
    generalize nErr l true p = er at HC hE ⊢
    have H := Lib.hid (And.intro hal HC)
    clear hg hT hal hx HC hv hi
    go_enter Tryz.func32, Tryz.ntmps32
    go_wp2_with fail
    refine H.out.2.mono ?_
    rintro e w1 ⟨rfl, hb1⟩
    go_wp2_with fail
    go_ret2
    exact ⟨rfl, below_trans H.out.1 hb1⟩

end Go.Proofs.YtgdlfjofefhdoaaGreatDoor
