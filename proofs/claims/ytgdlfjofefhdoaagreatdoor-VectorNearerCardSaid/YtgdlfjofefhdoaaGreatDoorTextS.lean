/- Package whole: the text of a negative integer. -/
import Derived.Test.YtgdlfjofefhdoaaGreatDoorWText
import Derived.Laws.AppendOwn
namespace Go.Proofs.YtgdlfjofefhdoaaGreatDoor
open Go.RowKit Go.Sort Go.Lib Mb

set_option maxRecDepth 100000 in
set_option maxHeartbeats 2000000 in
theorem wbyte_calls (B b : Nat) (bs : List Value) (c : Int) (w : World) (h : Bld B b bs w) (hlen : bs.length + 1 ≤ 140737488355328) (hBw : B ≤ w.heap.size) :
    Calls Tryz.prog 178 #[.pointer (some ⟨b, 0, none⟩), .int .u8 c] w fun e w' => e = .returned .nilIface ∧ (Lib.BuilderAt 209 5 B b (.pointer (some ⟨b, 0, none⟩)) (bs ++ [.int .u8 c]) w' ∧ Below B w w') := by
  obtain ⟨i0, hi, hz0, hz1, hz2⟩ := info_parts infoByte
  have H := check_bld B b bs w h
  clear h
  go_enter Tryz.func178, Tryz.ntmps178
  go_wp2_with fail
  refine H.mono ?_
  rintro e w1 ⟨rfl, h1, hb1⟩
  obtain ⟨hB, v, hbk, hown, hne⟩ := h1
  have c0 : w1.cell? ⟨b, 0, none⟩ = some (.pointer (some ⟨b, 0, none⟩)) := by rw [Lib.cell_of_heap hbk]; rfl
  have c1 : w1.cell? ⟨b, 1, none⟩ = some v := by rw [Lib.cell_of_heap hbk]; rfl
  go_wp2_with (at_builtin; refine wpList_append_own _ rfl _ _ 177 rfl B 5 i0 (.int .u8 0) 1 1 Tryz.underlying177 hi hz0 hz1 hz2 rfl (by decide) _ _ _ rfl (hown.alloc _) ⟨w1.heap.size, 0, none⟩ 1 1 [.int .u8 c] rfl rfl ?c1 ?c2 ?c3 ?c4 ?c5 ?_)
  case c1 =>
    intro j u hj
    match j, hj with
    | 0, hj => simp at hj; subst hj; simp [Addr.add]
  case c2 => intro u hu; simp at hu; subst hu; rfl
  case c3 => unfold maxLen; omega
  case c4 => omega
  case c5 => have := hb1.size; simp; omega
  intro v' w2 hown' hgrow _
  have hlt : b < w1.heap.size := (Array.getElem?_eq_some_iff.1 hbk).1
  have hb2 : w2.heap[b]? = some (.cells #[.pointer (some ⟨b, 0, none⟩), v] 209 (0, 0)) := by
    rw [hgrow.block b (by simp; omega) (fun e => hne e.symm), Lib.alloc_old w1 _ b hlt]
    exact hbk
  have d0 : w2.cell? ⟨b, 0, none⟩ = some (.pointer (some ⟨b, 0, none⟩)) := by rw [Lib.cell_of_heap hb2]; rfl
  have d1 : w2.cell? ⟨b, 1, none⟩ = some v := by rw [Lib.cell_of_heap hb2]; rfl
  have f1 : w2.frozen? ⟨b, 1, none⟩ = false := Lib.frozen_of_heap hb2 1
  obtain ⟨g, cap, rfl⟩ : ∃ g cap, v' = .slice (some ⟨g, 0, none⟩) (bs.length + 1) cap := by
    rcases hown'.2 with ⟨_, h0⟩ | ⟨g, cap, cur, hv, _⟩
    · omega
    · exact ⟨g, cap, hv⟩
  go_wp2
  go_ret
  refine ⟨rfl, ?_, ?_⟩
  · exact Lib.BuilderAt.put (T := 209) (e := 5) hB hb2 (bs' := bs ++ [.int .u8 c]) (by simpa using hown') (by decide)
  · exact ((hb1.alloc (by have := hb1.size; omega) _).grown hgrow (by have := hb1.size; simp; omega) (fun k hk => (hown.lt k hk).1)).setCell (p := ⟨b, 1, none⟩) hB _

set_option maxRecDepth 100000 in
set_option maxHeartbeats 3200000 in
theorem textn_calls (b k : Nat) (f : Nat → Int) (w : World) (hg : Good w) (hW : Wide w b true (k + 1) f) (hm : Mag f (k + 1)) :
    Calls Tryz.prog 154 #[.pointer (some ⟨b, 0, none⟩)] w fun e w' => e = .returned (S (-(val f (k + 1)))) ∧ Below w.heap.size w w' := by
  have c1 := hW.c1
  have c0 := hW.c0
  have hle := hm.le
  have cw := hW.cw k (by omega)
  have hwk := hm.wd k
  obtain ⟨v, hv⟩ : ∃ v, f k = v := ⟨_, rfl⟩
  rw [hv] at cw hwk
  obtain ⟨W0, hW0⟩ : ∃ W0, W0 = w.alloc (.cells #[.pointer none, .slice none 0 0] 209) := ⟨_, rfl⟩
  have hbl : Bld w.heap.size w.heap.size [] W0 := by rw [hW0]; exact bld_new w
  have hb1 : Below w.heap.size w W0 := by rw [hW0]; exact alloc_below _ _
  obtain ⟨bb, hbb⟩ : ∃ bb, bb = w.heap.size := ⟨_, rfl⟩
  have HW0 := Lib.hid (And.intro hW (And.intro hm (And.intro hg (And.intro hbl (And.intro hb1 (And.intro hv hbb))))))
  have c0' : (w.alloc (.cells #[.pointer none, .slice none 0 0] 209)).cell? ⟨b, 0, none⟩ = some (.bool true) := by rw [← hW0]; exact cellT c0 hb1
  have HWB := wbyte_calls w.heap.size w.heap.size [] 45 W0 hbl (by simp) hb1.size
  rw [← hbb] at HWB
  have hk0 : ((k : Int) + 1 == 0) = false := by rw [beq_eq_false_iff_ne]; omega
  have i1 : IntKind.i64.wrap (k : Int) = (k : Int) := IntWalk.i64_in _ (by omega)
  have i2 : (k : Int) < 232 := by omega
  have i3 : (0 : Int) ≤ (k : Int) := by omega
  clear hW hg hbl hb1
  go_enter Tryz.func154, Tryz.ntmps154
  go_wp2_with fail
  rw [← hW0, ← hbb]
  refine HWB.mono ?_
  rintro e W1 ⟨rfl, h2, hb2⟩
  clear HWB
  have hbW : Below w.heap.size w W1 := HW0.out.2.2.2.2.1.trans (by rw [← hbb]; exact hb2)
  have h2' : Bld w.heap.size w.heap.size (Lib.byteCells [45]) W1 := by rw [← hbb]; exact Or.inr h2
  have k1 := cell_regrown (cellT c1 hbW)
  have k2 := cell_regrown (cellT cw hbW)
  have q1 : ∀ r d os, CallsIn Fence.wide r Tryz.prog 109 #[.int .i64 v] (grow (redrawn W1 d) os) fun e w'' => e = .returned (S v) ∧ ∃ p : Regrown, w'' = grow (redrawn W1 p.d) p.os := fun r d os => callsIn_wide.2 (Calls.regrown_of (itoa_calls v _ ((HW0.out.2.2.1.to hbW).to (below_regrown W1 d os)) (by unfold B at hwk; omega) (by unfold B at hwk; omega)))
  have HW := Lib.hid (And.intro HW0.out.1 (And.intro HW0.out.2.1 (And.intro HW0.out.2.2.1 (And.intro h2' (And.intro hbW (And.intro HW0.out.2.2.2.2.2.1 hbb))))))
  clear hW0 hbb c0' c0 cw h2 h2' hb2 hbW HW0
  clear W0
  go_wp2_with fail
  refine wp_region_first (fun w' => ∃ p : Regrown, w' = grow (redrawn W1 p.d) p.os) 11 (by kernel_rfl) (by kernel_rfl) (by kernel_rfl) ⟨⟨W1.drawn + 1, #[]⟩, by rw [grow_empty]; rfl⟩ ?_
  simp only [List.take_succ_cons, List.take_zero, List.drop_succ_cons, List.drop_zero]
  repeat (refine wpQuietIn_step (fun _ _ _ _ => trivial) (fun K hK => ?_); go_simp; first | (refine hK _ ?_; clear hK K) | (apply Exists.intro; refine ⟨fun _ => ?_, hK _ ?_⟩; (first | with_reducible exact q1 _ _ _); clear hK K))
  refine wpQuietIn_nil ?_
  intro _ hw'
  obtain ⟨⟨dq, osq⟩, rfl⟩ := hw'
  obtain ⟨W2, hW2⟩ : ∃ W2, W2 = grow (redrawn W1 dq) osq := ⟨_, rfl⟩
  have hb2 : Below W1.heap.size W1 W2 := hW2 ▸ below_regrown W1 dq osq
  rw [← hW2]
  clear hW2 k1 k2 q1
  have hbW2 : Below w.heap.size w W2 := below_trans HW.out.2.2.2.2.1 hb2
  have H := wstr_calls w.heap.size w.heap.size (Lib.byteCells [45]) ⟨(itoa v).toArray⟩ W2 (HW.out.2.2.2.1.to hb2) (by have := lenS v hwk; show 1 + (itoa v).length ≤ _; omega) hbW2.size
  rw [← HW.out.2.2.2.2.2.2] at H
  have fW : Fence.wide.fn 179 := trivial
  gi_wp2_with fail
  refine (callsIn_wide.2 H).mono ?_
  rintro e w3 ⟨rfl, h3, hb3⟩
  have hb4 : Below bb w w3 := (HW.out.2.2.2.2.2.2 ▸ hbW2 : Below bb w W2).trans hb3
  have hlt : b < bb := by rw [HW.out.2.2.2.2.2.2]; exact HW.out.1.lt
  have c3 := (hb4.cell (p := ⟨b, 1, none⟩) hlt).trans c1
  rw [strS v hwk.1, ← Lib.byteCells_append] at h3
  have HT := Lib.hid (And.intro h3 (And.intro hb4 hlt))
  clear H h3 hb4 hlt hb3 hb2 hbW2 c1
  have i4 : IntKind.i64.wrap ((k : Int) - 1) = (k : Int) - 1 := IntWalk.i64_in _ (by omega)
  have i5 : IntKind.i64.wrap ((k : Int) + 1 - 2) = (k : Int) - 1 := by rw [IntWalk.i64_in _ (by omega)]; omega
  gi_wp2
  go_wp2_with fail
  go_loopg [4] k (fun g iv wr => iv = .int .i64 ((g : Int) - 1) ∧ g ≤ k ∧ Lib.BuilderAt 209 5 bb bb (.pointer (some ⟨bb, 0, none⟩)) (Lib.byteCells (45 :: decDigits (hi f (k + 1) g))) wr ∧ Below bb w wr ∧ (decDigits (hi f (k + 1) g)).length ≤ 9 * (k + 1 - g))
  case atStart => exact ⟨rfl, Nat.le_refl _, by rw [hi_top, HW.out.2.2.2.2.2.1]; exact HT.out.1, HT.out.2.1, by rw [hi_top, HW.out.2.2.2.2.2.1]; have := lenT v hwk; omega⟩
  case round =>
    clear c3
    obtain ⟨rfl, hgk, hbd, hbel, hlen⟩ := hrel
    have HR := Lib.hid (And.intro hbd (And.intro hbel hlen)); clear hbd hbel hlen
    by_cases hg0 : gk = 0
    · subst hg0
      have H := Tryz.Builder_String_any bb bb (45 :: decDigits (hi f (k + 1) 0)) wr (Or.inr HR.out.1) (by rw [HW.out.2.2.2.2.2.2]; exact Nat.le_trans (Nat.le_refl _) HR.out.2.1.size)
      have hv0 : 0 < val f (k + 1) := by have h1 := HW.out.2.1.low; have h2 := pow_pos' k; omega
      rw [hi_zero, show 45 :: decDigits (val f (k + 1)).toNat = itoa (-(val f (k + 1))) by rw [Mb.itoa_neg (by omega)]; congr 2; omega] at H
      clear hv0
      go_wp2_with fail
      refine H.mono ?_
      rintro e w5 ⟨rfl, hb5⟩
      have HB5 := Lib.hid (HR.out.2.1.trans hb5)
      clear H hb5
      go_wp2_with fail
      go_ret
      exact ⟨rfl, by rw [← HW.out.2.2.2.2.2.2]; exact HB5.out⟩
    · obtain ⟨j, rfl⟩ : ∃ j, gk = j + 1 := ⟨gk - 1, by omega⟩
      have hjb := HW.out.2.1.wd j
      have k1 := (HW.out.1.below HR.out.2.1 HT.out.2.2).cw j (by omega)
      obtain ⟨u, hu⟩ : ∃ u, f j = u := ⟨_, rfl⟩
      rw [hu] at hjb k1
      have hgd : Good wr := HW.out.2.2.1.to (by rw [← HW.out.2.2.2.2.2.2]; exact HR.out.2.1)
      have H1 := itoa_calls u wr hgd (by unfold B at hjb; omega) (by unfold B at hjb; omega)
      have hls := lenS u hjb
      obtain ⟨s, hs⟩ : ∃ s : ByteArray, s = ⟨(itoa u).toArray⟩ := ⟨_, rfl⟩
      have hsz : s.size ≤ 9 := by rw [hs]; exact hls
      have H2 : Calls Tryz.prog 109 #[.int .i64 u] wr fun e w' => e = .returned (.string s) ∧ Below wr.heap.size wr w' := by rw [hs]; exact H1
      have HU := Lib.hid (And.intro hu (And.intro hs hjb))
      clear H1 hu hs hjb hls hgd hg0
      have i6 : (j : Int) < 232 := by omega
      have i7 : (0 : Int) ≤ (j : Int) := by omega
      have i8 : (s.size : Int) ≤ 9 := by omega
      have i9 : IntKind.i64.wrap ((j : Int) - 1) = (j : Int) - 1 := IntWalk.i64_in _ (by omega)
      go_wp2_with fail
      refine H2.mono ?_
      rintro e w5 ⟨rfl, hb5⟩
      have HB5 := Lib.hid hb5
      have hwb := Bld.to (Or.inr HR.out.1) hb5
      have H3 := fun E hE => wstr_calls bb bb (Lib.byteCells (45 :: decDigits (hi f (k + 1) (j + 1)))) E w5 hwb hE (Nat.le_trans (by have := HR.out.2.1.size; rw [HW.out.2.2.2.2.2.2]; exact this) hb5.size)
      clear H2 k1 hb5 hwb
      go_wp2_with fail
      have hE : (({ data := #[48, 48, 48, 48, 48, 48, 48, 48, 48] } : ByteArray).extract s.size 9 ++ s).size = 9 := by
        rw [← Lib.strCells_length, HU.out.2.1, padE u HU.out.2.2, Lib.byteCells_length]
        exact pad9_len (by have := HU.out.2.2; unfold B at this; omega)
      refine (H3 _ ?_).mono ?_
      · rw [hE, Lib.byteCells_length, List.length_cons]
        have := HR.out.2.2
        omega
      · rintro e w6 ⟨rfl, h6, hb6⟩
        have e2 : Lib.byteCells (45 :: decDigits (hi f (k + 1) (j + 1))) ++ Lib.strCells (({ data := #[48, 48, 48, 48, 48, 48, 48, 48, 48] } : ByteArray).extract s.size 9 ++ s) = Lib.byteCells (45 :: decDigits (hi f (k + 1) j)) := by
          rw [HU.out.2.1, padE u HU.out.2.2, text_step (j := j) HW.out.2.1 (by omega), ← List.cons_append, Lib.byteCells_append, HU.out.1]
        rw [e2] at h6
        have HF := Lib.hid (And.intro h6 (HR.out.2.1.trans ((HB5.out.mono (by rw [HW.out.2.2.2.2.2.2]; exact HR.out.2.1.size)).trans hb6)))
        clear H3 h6 hb6 e2 hE
        go_wp2_with fail
        go_roundg j
        case measure => omega
        case rel =>
          refine ⟨by go_num, by omega, HF.out.1, HF.out.2, ?_⟩
          rw [text_step (j := j) HW.out.2.1 (by omega), List.length_append, HU.out.1, pad9_len (by have := HU.out.2.2; unfold B at this; omega)]
          have := HR.out.2.2
          omega


end Go.Proofs.YtgdlfjofefhdoaaGreatDoor
