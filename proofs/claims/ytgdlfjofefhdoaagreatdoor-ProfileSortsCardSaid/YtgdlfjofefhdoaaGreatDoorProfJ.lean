/- Package profile: Unequal. -/
import Derived.Test.YtgdlfjofefhdoaaGreatDoorProfI
namespace Go.Proofs.YtgdlfjofefhdoaaGreatDoor
open Go.RowKit Go.Sort Go.Lib Go.Shelf Mb

attribute [local go_sem] Oper.semAt_some

theorem locV_cases (l : List P2) (p : P2) : locV l p = 1 ∨ locV l p = 0 ∨ locV l p = -1 := by
  unfold locV
  split
  · exact .inr (.inl rfl)
  · split
    · rename_i h; have := lfold_bd p (upto (sq3 l h) l.length); omega
    · exact .inr (.inl rfl)

/-- the test of Unequal -/
def unB (l pts : List P2) (x y : Int) (k : Nat) : Bool :=
  if 0 < locV l (g2 pts k) then btB (mostN x 1) (mostD x 1) (nrst l true (g2 pts k))
  else if locV l (g2 pts k) < 0 then btB (mostN y 1) (mostD y 1) (nrst l true (g2 pts k)) else false

abbrev bFn (M : Nat) : Value := .func (.func 144) #[] #[.pointer (some ⟨M, 0, none⟩)]

/-- the memory that Unequal's test reads -/
structure UM (l pts : List P2) (a b : Option Addr) (cap cap' : Nat) (C4 C5 D F MD MF : Nat) (x y : Int) (W : World) : Prop where
  c4 : W.cell? ⟨C4, 0, none⟩ = some (.slice a l.length cap)
  c5 : W.cell? ⟨C5, 0, none⟩ = some (.slice b pts.length cap')
  cd : W.cell? ⟨D, 0, none⟩ = some (bFn MD)
  cf : W.cell? ⟨F, 0, none⟩ = some (bFn MF)
  md : W.cell? ⟨MD, 0, none⟩ = some (R (mostN x 1) (mostD x 1))
  mf : W.cell? ⟨MF, 0, none⟩ = some (R (mostN y 1) (mostD y 1))
theorem UM.to {l pts : List P2} {a b : Option Addr} {cap cap' : Nat} {C4 C5 D F MD MF : Nat} {x y : Int} {W W' : World} (h : UM l pts a b cap cap' C4 C5 D F MD MF x y W) (hb : Below W.heap.size W W') : UM l pts a b cap cap' C4 C5 D F MD MF x y W' :=
  ⟨cell_to h.c4 hb, cell_to h.c5 hb, cell_to h.cd hb, cell_to h.cf hb, cell_to h.md hb, cell_to h.mf hb⟩

set_option maxRecDepth 100000 in
set_option maxHeartbeats 3200000 in
theorem unT_calls (l pts : List P2) (a b : Option Addr) (cap cap' : Nat) (C4 C5 D F MD MF : Nat) (x y : Int) (k : Nat) (W : World) (hg : Good W) (hU : UM l pts a b cap cap' C4 C5 D F MD MF x y W)
    (hT : Sl2 W a l) (hP : Sl2 W b pts) (hk : k < pts.length) (he : pErr l true = 0) (hpe : errOf pts = 0) (hx : Dst (mostN x 1) (mostD x 1)) (hy : Dst (mostN y 1) (mostD y 1)) :
    Calls Tryz.prog 99 #[.int .i64 k, bV (nrst l true (g2 pts k)), .pointer (some ⟨C4, 0, none⟩), .pointer (some ⟨C5, 0, none⟩), .pointer (some ⟨D, 0, none⟩), .pointer (some ⟨F, 0, none⟩)] W fun e W' => e = .returned (.bool (unB l pts x y k)) ∧ Below W.heap.size W W' := by
  obtain ⟨b0, o0, rfl, hb0, p1, p2⟩ := g2_cells hP hk
  have hpf := g2_flat hpe k
  have HL := fun W hT => ploc_calls l a cap (g2 pts k) W hT he hpf
  obtain ⟨⟨n, d, j⟩, hb⟩ := nrst_some (p := g2 pts k) he
  have hok := nrst_ok (l := l) (c := true) hpf
  rw [hb] at hok HL ⊢
  have hds := hok.1
  have e1 : bV (some (n, d, j)) = R n d := rfl
  rw [e1] at HL ⊢
  have HD := fun W hg hm => beyT_calls (mostN x 1) (mostD x 1) n d MD W hg hm hds hx
  have HF := fun W hg hm => beyT_calls (mostN y 1) (mostD y 1) n d MF W hg hm hds hy
  have hun : unB l pts x y k = if 0 < locV l (g2 pts k) then beyB (mostN x 1) (mostD x 1) n d else if locV l (g2 pts k) < 0 then beyB (mostN y 1) (mostD y 1) n d else false := by unfold unB; rw [hb]; rfl
  rw [hun]
  have hlc := locV_cases l (g2 pts k)
  generalize locV l (g2 pts k) = lv at HL hlc ⊢
  generalize beyB (mostN x 1) (mostD x 1) n d = bd at HD ⊢
  generalize beyB (mostN y 1) (mostD y 1) n d = bf at HF ⊢
  obtain ⟨pp, hpp⟩ : ∃ pp, g2 pts k = pp := ⟨_, rfl⟩
  rw [hpp] at p1 p2 HL
  have hmd := hU.md
  have hmf := hU.mf
  generalize R (mostN x 1) (mostD x 1) = rx at HD hmd
  generalize R (mostN y 1) (mostD y 1) = ry at HF hmf
  obtain ⟨sx, hsx⟩ : ∃ s, R n d = .string s := ⟨_, rfl⟩
  rw [hsx] at HL HD HF ⊢
  have k1 := cell_regrown hU.c4
  have k2 := cell_regrown hU.c5
  have k3 := cell_regrown p1
  have k4 := cell_regrown p2
  have i1 : ((k : Int) < pts.length) := by omega
  have z1 : (0 : Int) ≤ (k : Int) := by omega
  have q1 : ∀ dd os, Calls Tryz.prog 86 #[.slice a l.length cap, V pp, .string sx] (grow (redrawn W dd) os) fun e w'' => e = .returned (.int .i64 lv) ∧ ∃ p : Regrown, w'' = grow (redrawn W p.d) p.os := fun dd os => Calls.regrown_of (HL _ (hT.to (below_regrown W dd os)))
  have H := Lib.hid (And.intro hg (And.intro hU (And.intro hmd (And.intro hmf (And.intro HD HF)))))
  clear hg hT hP he hpe hx hy hpf HL hb hok hds e1 HD HF hun hpp hsx hmd hmf p1 p2 hU
  have hB : ∀ dq osq, Below W.heap.size W (grow (redrawn W dq) osq) := fun dq osq => below_regrown W dq osq
  rcases hlc with rfl | rfl | rfl
  · rw [if_pos (by omega)]
    cases bd with
    | true =>
      go_enter Tryz.func99, Tryz.ntmps99
      go_wp2_with fail
      refine wp_region_quiet_below follows (by kernel_rfl) ?_
      repeat (quiet_step (with_reducible exact q1 _ _))
      refine wpQuiet_nil ?_
      intro _ hw'
      obtain ⟨⟨dq, osq⟩, hw''⟩ := hw'
      subst hw''
      have hb2 := hB dq osq
      generalize grow (redrawn W dq) osq = w2 at hb2 ⊢
      clear k1 k2 k3 k4 q1 hB
      have c1 := cell_to H.out.2.1.cd hb2
      have HZ := Lib.hid hb2; clear hb2
      go_wp2_with fail
      refine (H.out.2.2.2.2.1 _ (H.out.1.to HZ.out) (cell_to H.out.2.2.1 HZ.out)).mono ?_
      rintro e w3 ⟨rfl, hb3⟩
      go_wp2_with fail
      go_ret
      exact ⟨rfl, below_trans HZ.out hb3⟩
    | false =>
      go_enter Tryz.func99, Tryz.ntmps99
      go_wp2_with fail
      refine wp_region_quiet_below follows (by kernel_rfl) ?_
      repeat (quiet_step (with_reducible exact q1 _ _))
      refine wpQuiet_nil ?_
      intro _ hw'
      obtain ⟨⟨dq, osq⟩, hw''⟩ := hw'
      subst hw''
      have hb2 := hB dq osq
      generalize grow (redrawn W dq) osq = w2 at hb2 ⊢
      clear k1 k2 k3 k4 q1 hB
      have c1 := cell_to H.out.2.1.cd hb2
      have HZ := Lib.hid hb2; clear hb2
      go_wp2_with fail
      refine (H.out.2.2.2.2.1 _ (H.out.1.to HZ.out) (cell_to H.out.2.2.1 HZ.out)).mono ?_
      rintro e w3 ⟨rfl, hb3⟩
      go_wp2_with fail
      go_ret
      exact ⟨rfl, below_trans HZ.out hb3⟩
  · rw [if_neg (by omega), if_neg (by omega)]
    go_enter Tryz.func99, Tryz.ntmps99
    go_wp2_with fail
    refine wp_region_quiet_below follows (by kernel_rfl) ?_
    repeat (quiet_step (with_reducible exact q1 _ _))
    refine wpQuiet_nil ?_
    intro _ hw'
    obtain ⟨⟨dq, osq⟩, hw''⟩ := hw'
    subst hw''
    have hb2 := hB dq osq
    generalize grow (redrawn W dq) osq = w2 at hb2 ⊢
    clear k1 k2 k3 k4 q1 hB
    go_wp2_with fail
    go_ret
    exact ⟨rfl, hb2⟩
  · rw [if_neg (by omega), if_pos (by omega)]
    go_enter Tryz.func99, Tryz.ntmps99
    go_wp2_with fail
    refine wp_region_quiet_below follows (by kernel_rfl) ?_
    repeat (quiet_step (with_reducible exact q1 _ _))
    refine wpQuiet_nil ?_
    intro _ hw'
    obtain ⟨⟨dq, osq⟩, hw''⟩ := hw'
    subst hw''
    have hb2 := hB dq osq
    generalize grow (redrawn W dq) osq = w2 at hb2 ⊢
    clear k1 k2 k3 k4 q1 hB
    have c1 := cell_to H.out.2.1.cf hb2
    have HZ := Lib.hid hb2; clear hb2
    go_wp2_with fail
    refine (H.out.2.2.2.2.2 _ (H.out.1.to HZ.out) (cell_to H.out.2.2.2.1 HZ.out)).mono ?_
    rintro e w3 ⟨rfl, hb3⟩
    go_wp2_with fail
    go_ret
    exact ⟨rfl, below_trans HZ.out hb3⟩

end Go.Proofs.YtgdlfjofefhdoaaGreatDoor
