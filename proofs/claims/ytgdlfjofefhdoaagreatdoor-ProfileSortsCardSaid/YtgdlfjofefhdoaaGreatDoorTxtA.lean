/- Package whole: the text of a magnitude, by the library's strings.Builder. Package whole: the text of a negative integer. Package whole: Mul and Add of integers of any size. -/
import Derived.Test.YtgdlfjofefhdoaaGreatDoorWhB
import Derived.Test.YtgdlfjofefhdoaaGreatDoorMixed
import Derived.Sort.QuietTacIn
import Derived.OwnWalkIn
import Derived.TacticsInMore
import Derived.Shelf.RegionOpen
import Derived.Lib.QuietBelow
import Derived.Lib.AppendStr
import Derived.Lib.Builder
import Derived.Lib.UnsafeStr
import Derived.Laws.Externs
import Derived.Laws.AppendOwn
namespace Go.Proofs.YtgdlfjofefhdoaaGreatDoor
open Go.RowKit Go.Sort Go.Lib Mb

theorem sizeBld : (Tryz.prog.info? 209).map (·.size) = some 2 := by kernel_rfl
theorem liesBld : liesAt Tryz.prog Tryz.prog.depth 209 (2 / Tryz.prog.cellsOf 209) 0 209 1 = true := by kernel_rfl
theorem infoByte : (Tryz.prog.info? 5).map (fun i => (i.zero, i.size, i.bytes)) = some (some (.int .u8 0), 1, 1) := by kernel_rfl

set_option maxRecDepth 100000 in
set_option maxHeartbeats 1000000 in
theorem check_used (b : Nat) (w : World) (h0 : w.cell? ⟨b, 0, none⟩ = some (.pointer (some ⟨b, 0, none⟩))) :
    Calls Tryz.prog 210 #[.pointer (some ⟨b, 0, none⟩)] w fun e w' => e = .returned (.tuple #[]) ∧ w' = w := by
  obtain ⟨j, hj, _⟩ := Option.map_eq_some_iff.1 sizeBld
  go_enter Tryz.func210, Tryz.ntmps210
  go_wp2
  rw [Lib.run_neq_ptr_same w _ Tryz.underlying207 hj]
  go_wp2
  go_end0
  exact ⟨rfl, rfl⟩

set_option maxRecDepth 100000 in
set_option maxHeartbeats 1000000 in
theorem check_fresh (b : Nat) (w : World) (h0 : w.cell? ⟨b, 0, none⟩ = some (.pointer none)) (hsh : w.shape? b = some (209, 2)) (hfz : w.frozen? ⟨b, 0, none⟩ = false) :
    Calls Tryz.prog 210 #[.pointer (some ⟨b, 0, none⟩)] w fun e w' => e = .returned (.tuple #[]) ∧ w' = w.setCell ⟨b, 0, none⟩ (.pointer (some ⟨b, 0, none⟩)) := by
  obtain ⟨j, hj, hjs⟩ := Option.map_eq_some_iff.1 sizeBld
  go_enter Tryz.func210, Tryz.ntmps210
  go_wp2
  rw [Lib.run_to_unsafe w ⟨b, 0, none⟩ Tryz.underlying207 Tryz.underlying262 hj (by rw [hjs]; decide) hsh (Nat.zero_lt_succ 1)]
  simp only [Result.andThen]
  rw [Oper.upon_value]
  go_wp2
  rw [run_callFunc_extern Tryz.func232 (by kernel_rfl) (by kernel_rfl) (by kernel_rfl) (e := Extern.AbiNoEscape.same) (by kernel_rfl)]
  rw [Lib.run_noEscape]
  simp only [Result.andThen]
  rw [Oper.upon_value]
  go_wp2
  rw [Lib.run_from_unsafe w ⟨b, 0, none⟩ Tryz.underlying262 Tryz.underlying207 hj hsh liesBld]
  simp only [Result.andThen]
  rw [Oper.upon_value]
  go_wp2
  go_end0
  exact ⟨rfl, rfl⟩

abbrev Bld (B b : Nat) (bs : List Value) (w : World) : Prop := Lib.IsBuilder 209 5 B b bs w

theorem check_bld (B b : Nat) (bs : List Value) (w : World) (h : Bld B b bs w) :
    Calls Tryz.prog 210 #[.pointer (some ⟨b, 0, none⟩)] w fun e w' => e = .returned (.tuple #[]) ∧ (Lib.BuilderAt 209 5 B b (.pointer (some ⟨b, 0, none⟩)) bs w' ∧ Below B w w') := by
  rcases h with h | h
  · refine (check_fresh b w h.cell0 h.shape h.frozen0).mono ?_
    rintro e w' ⟨rfl, rfl⟩
    exact ⟨rfl, h.used _, (Below.refl B w).setCell (p := ⟨b, 0, none⟩) h.1 _⟩
  · refine (check_used b w h.cell0).mono ?_
    rintro e w' ⟨rfl, rfl⟩
    exact ⟨rfl, h, Below.refl B _⟩

set_option maxRecDepth 100000 in
set_option maxHeartbeats 2000000 in
theorem wstr_calls (B b : Nat) (bs : List Value) (s : ByteArray) (w : World) (h : Bld B b bs w) (hlen : bs.length + s.size ≤ 140737488355328) (hBw : B ≤ w.heap.size) :
    Calls Tryz.prog 179 #[.pointer (some ⟨b, 0, none⟩), .string s] w fun e w' => e = .returned (.tuple #[.int .i64 s.size, .nilIface]) ∧ (Lib.BuilderAt 209 5 B b (.pointer (some ⟨b, 0, none⟩)) (bs ++ Lib.strCells s) w' ∧ Below B w w') := by
  obtain ⟨i0, hi, hz0, hz1, hz2⟩ := info_parts infoByte
  have H := check_bld B b bs w h
  clear h
  go_enter Tryz.func179, Tryz.ntmps179
  go_wp2_with fail
  refine H.mono ?_
  rintro e w1 ⟨rfl, h1, hb1⟩
  obtain ⟨hB, v, hbk, hown, hne⟩ := h1
  have c0 : w1.cell? ⟨b, 0, none⟩ = some (.pointer (some ⟨b, 0, none⟩)) := by rw [Lib.cell_of_heap hbk]; rfl
  have c1 : w1.cell? ⟨b, 1, none⟩ = some v := by rw [Lib.cell_of_heap hbk]; rfl
  go_wp2_with (at_builtin; refine Lib.wpList_append_own_string _ rfl _ _ 177 9 rfl B 5 i0 Tryz.underlying177 Tryz.underlying9 hi hz0 hz1 hz2 _ _ _ rfl hown s rfl ?c3 ?c4 ?c5 ?_)
  case c3 => unfold maxLen; omega
  case c4 => omega
  case c5 => have := hb1.size; omega
  intro v' w2 hown' hgrow _
  have hlt : b < w1.heap.size := (Array.getElem?_eq_some_iff.1 hbk).1
  have hb2 : w2.heap[b]? = some (.cells #[.pointer (some ⟨b, 0, none⟩), v] 209 (0, 0)) := by
    rw [hgrow.block b hlt (fun e => hne e.symm)]
    exact hbk
  have d0 : w2.cell? ⟨b, 0, none⟩ = some (.pointer (some ⟨b, 0, none⟩)) := by rw [Lib.cell_of_heap hb2]; rfl
  have d1 : w2.cell? ⟨b, 1, none⟩ = some v := by rw [Lib.cell_of_heap hb2]; rfl
  have f1 : w2.frozen? ⟨b, 1, none⟩ = false := Lib.frozen_of_heap hb2 1
  obtain ⟨ao, n', cap, rfl⟩ : ∃ ao n' cap, v' = .slice ao n' cap := by
    rcases hown'.2 with ⟨hv, _⟩ | ⟨g, cap, cur, hv, _⟩
    · exact ⟨_, _, _, hv⟩
    · exact ⟨_, _, _, hv⟩
  go_wp2
  go_ret2
  refine ⟨rfl, ?_, ?_⟩
  · exact Lib.BuilderAt.put (T := 209) (e := 5) hB hb2 (bs' := bs ++ Lib.strCells s) (by simpa [Lib.strCells_length] using hown') (by decide)
  · exact (hb1.grown hgrow (by have := hb1.size; omega) (fun k hk => (hown.lt k hk).1)).setCell (p := ⟨b, 1, none⟩) hB _

theorem bld_new (w : World) : Bld w.heap.size w.heap.size [] (w.alloc (.cells #[.pointer none, .slice none 0 0] 209)) :=
  Or.inl ⟨Nat.le_refl _, .slice none 0 0, by unfold World.alloc; simp, World.ownsRow_nil _ _ _ _, by simp [Value.ownBlock]⟩
theorem cellT {w w' : World} {b i : Nat} {v : Value} (h : w.cell? ⟨b, i, none⟩ = some v) (hb : Below w.heap.size w w') : w'.cell? ⟨b, i, none⟩ = some v := (hb.cell (p := ⟨b, i, none⟩) (World.block_lt_of_cell? _ _ h)).trans h
theorem Bld.to {B b : Nat} {bs : List Value} {w w' : World} (h : Bld B b bs w) (hb : Below w.heap.size w w') : Bld B b bs w' := by
  have one : ∀ p, Lib.BuilderAt 209 5 B b p bs w → Lib.BuilderAt 209 5 B b p bs w' := by
    rintro p ⟨h1, v, h2, h3, h4⟩
    exact ⟨h1, v, by rw [hb.block b (Array.getElem?_eq_some_iff.1 h2).1]; exact h2, h3.kept (gb_below (r := none) hb) (by cases hv : v.ownBlock with | none => exact .inl rfl | some k => exact .inr (by simp)), h4⟩
  rcases h with h | h
  · exact .inl (one _ h)
  · exact .inr (one _ h)

/-- the first operations of a region that draws by one quiet walk, the others as a list: outside a fence -/
theorem wp_region_first (C : World → Prop) (k : Nat) {Q : Exit → Act → World → Prop} {id : Nat} {l : List Oper} {a : Act} {w : World}
    (hB : mixB l.toArray (l.take k).length = true) (hX : Region.lexB .any (l.take k).toArray = true) (hg : ((l.take k).all fun o => o.guard.isNone && match o.op with | .defer _ => false | _ => true) = true) (hC : C w.drew)
    (h : wpQuietIn Fence.wide 10 Tryz.prog (l.take k).toArray C (fun a' => ∀ w', C w' → wpListIn Fence.wide 10 Tryz.prog l.toArray Q (l.drop k) a' w') (l.take k) a) : (Code.region id l.toArray true).wp Tryz.prog Q a w :=
  wpIn_wide.1 (wpIn_region_first C k (show Tryz.prog.follows .mixedOrders = true by kernel_rfl) hB hX hg hC h)

theorem S_zero' : S 0 = .string ⟨#[48]⟩ := by
  show Value.string ⟨(itoa 0).toArray⟩ = _
  rw [Mb.itoa_nonneg (by omega), show (0 : Int).natAbs = 0 from rfl, decDigits]; rfl

theorem strS (n : Int) (h : 0 ≤ n) : Lib.strCells ⟨(itoa n).toArray⟩ = Lib.byteCells (decDigits n.toNat) := by
  rw [Lib.strCells_eq, Mb.itoa_nonneg h, show n.natAbs = n.toNat by omega]

theorem lenT (v : Int) (h : 0 ≤ v ∧ v < B) : (decDigits v.toNat).length ≤ 9 := (decDigits_len_le (by decide)).2 (by unfold B at h; omega)
theorem lenS (v : Int) (h : 0 ≤ v ∧ v < B) : (itoa v).length ≤ 9 := by
  rw [Mb.itoa_nonneg h.1, show v.natAbs = v.toNat by omega]
  exact lenT v h

theorem padE (u : Int) (h : 0 ≤ u ∧ u < B) : Lib.strCells ((({ data := #[48, 48, 48, 48, 48, 48, 48, 48, 48] } : ByteArray).extract (⟨(itoa u).toArray⟩ : ByteArray).size 9) ++ ⟨(itoa u).toArray⟩) = Lib.byteCells (pad9 u.toNat) := by
  rw [Lib.strCells_eq]
  congr 1
  rw [ByteArray.data_append, Array.toList_append, Lib.extract_data]
  have e : itoa u = decDigits u.toNat := by rw [Mb.itoa_nonneg h.1]; congr 1; omega
  have hl := lenT u h
  show List.take (9 - (itoa u).length) (List.drop (itoa u).length [48, 48, 48, 48, 48, 48, 48, 48, 48]) ++ itoa u = _
  rw [e, show ([48, 48, 48, 48, 48, 48, 48, 48, 48] : List UInt8) = List.replicate 9 48 from rfl, List.drop_replicate, List.take_replicate, Nat.min_self]
  rfl

set_option maxRecDepth 100000 in
set_option maxHeartbeats 3200000 in
theorem text_calls (b n : Nat) (f : Nat → Int) (w : World) (hg : Good w) (hW : Wide w b false n f) (hm : Mag f n) :
    Calls Tryz.prog 154 #[.pointer (some ⟨b, 0, none⟩)] w fun e w' => e = .returned (S (val f n)) ∧ Below w.heap.size w w' := by
  have c1 := hW.c1
  have c0 := hW.c0
  by_cases hn0 : n = 0
  · subst hn0
    rw [show val f 0 = 0 from rfl, S_zero']
    go_enter Tryz.func154, Tryz.ntmps154
    go_wp2_with fail
    go_ret
    exact ⟨rfl, Below.refl _ _⟩
  · obtain ⟨k, rfl⟩ : ∃ k, n = k + 1 := ⟨n - 1, by omega⟩
    have hle := hm.le
    have cw := hW.cw k (by omega)
    have hwk := hm.wd k
    obtain ⟨v, hv⟩ : ∃ v, f k = v := ⟨_, rfl⟩
    rw [hv] at cw hwk
    obtain ⟨W1, hW1⟩ : ∃ W1, W1 = w.alloc (.cells #[.pointer none, .slice none 0 0] 209) := ⟨_, rfl⟩
    have hbl : Bld w.heap.size w.heap.size [] W1 := by rw [hW1]; exact bld_new w
    have hb1 : Below w.heap.size w W1 := by rw [hW1]; exact alloc_below _ _
    obtain ⟨bb, hbb⟩ : ∃ bb, bb = w.heap.size := ⟨_, rfl⟩
    have HW := Lib.hid (And.intro hW (And.intro hm (And.intro hg (And.intro hbl (And.intro hb1 (And.intro hv hbb))))))
    have c0' : (w.alloc (.cells #[.pointer none, .slice none 0 0] 209)).cell? ⟨b, 0, none⟩ = some (.bool false) := by rw [← hW1]; exact cellT c0 hb1
    have hk0 : ((k : Int) + 1 == 0) = false := by rw [beq_eq_false_iff_ne]; omega
    have k1 := cell_regrown (cellT c1 hb1)
    have k2 := cell_regrown (cellT cw hb1)
    have q1 : ∀ r d os, CallsIn Fence.wide r Tryz.prog 109 #[.int .i64 v] (grow (redrawn W1 d) os) fun e w'' => e = .returned (S v) ∧ ∃ p : Regrown, w'' = grow (redrawn W1 p.d) p.os := fun r d os => callsIn_wide.2 (Calls.regrown_of (itoa_calls v _ ((hg.to hb1).to (below_regrown W1 d os)) (by unfold B at hwk; omega) (by unfold B at hwk; omega)))
    have i1 : IntKind.i64.wrap (k : Int) = (k : Int) := IntWalk.i64_in _ (by omega)
    have i2 : (k : Int) < 232 := by omega
    have i3 : (0 : Int) ≤ (k : Int) := by omega
    clear hW hg hbl hb1 hn0 cw
    go_enter Tryz.func154, Tryz.ntmps154
    go_wp2_with fail
    rw [← hW1, ← hbb]
    clear hW1 hbb
    refine wp_region_first (fun w' => ∃ p : Regrown, w' = grow (redrawn W1 p.d) p.os) 11 (by kernel_rfl) (by kernel_rfl) (by kernel_rfl) ⟨⟨W1.drawn + 1, #[]⟩, by rw [grow_empty]; rfl⟩ ?_
    simp only [List.take_succ_cons, List.take_zero, List.drop_succ_cons, List.drop_zero]
    repeat (refine wpQuietIn_step (fun _ _ _ _ => trivial) (fun K hK => ?_); go_simp; first | (refine hK _ ?_; clear hK K) | (apply Exists.intro; refine ⟨fun _ => ?_, hK _ ?_⟩; (first | with_reducible exact q1 _ _ _); clear hK K))
    refine wpQuietIn_nil ?_
    intro _ hw'
    obtain ⟨⟨dq, osq⟩, rfl⟩ := hw'
    obtain ⟨W2, hW2⟩ : ∃ W2, W2 = grow (redrawn W1 dq) osq := ⟨_, rfl⟩
    have hb2 : Below W1.heap.size W1 W2 := hW2 ▸ below_regrown W1 dq osq
    rw [← hW2]
    clear hW2 k1 k2 q1 c0' c0
    have hbW2 : Below w.heap.size w W2 := below_trans HW.out.2.2.2.2.1 hb2
    have H := wstr_calls w.heap.size w.heap.size [] ⟨(itoa v).toArray⟩ W2 (HW.out.2.2.2.1.to hb2) (by have := lenS v hwk; show 0 + (itoa v).length ≤ _; omega) hbW2.size
    rw [← HW.out.2.2.2.2.2.2] at H
    have fW : Fence.wide.fn 179 := trivial
    gi_wp2_with fail
    refine (callsIn_wide.2 H).mono ?_
    rintro e w3 ⟨rfl, h3, hb3⟩
    have hb4 : Below bb w w3 := (HW.out.2.2.2.2.2.2 ▸ hbW2 : Below bb w W2).trans hb3
    have hlt : b < bb := by rw [HW.out.2.2.2.2.2.2]; exact HW.out.1.lt
    have c3 := (hb4.cell (p := ⟨b, 1, none⟩) hlt).trans c1
    rw [List.nil_append, strS v hwk.1] at h3
    have HT := Lib.hid (And.intro h3 (And.intro hb4 hlt))
    clear H h3 hb4 hlt hb3 hb2 hbW2 c1
    have i4 : IntKind.i64.wrap ((k : Int) - 1) = (k : Int) - 1 := IntWalk.i64_in _ (by omega)
    have i5 : IntKind.i64.wrap ((k : Int) + 1 - 2) = (k : Int) - 1 := by rw [IntWalk.i64_in _ (by omega)]; omega
    gi_wp2
    go_wp2_with fail
    go_loopg [4] k (fun g iv wr => iv = .int .i64 ((g : Int) - 1) ∧ g ≤ k ∧ Lib.BuilderAt 209 5 bb bb (.pointer (some ⟨bb, 0, none⟩)) (Lib.byteCells (decDigits (hi f (k + 1) g))) wr ∧ Below bb w wr ∧ (decDigits (hi f (k + 1) g)).length ≤ 9 * (k + 1 - g))
    case atStart => exact ⟨rfl, Nat.le_refl _, by rw [hi_top, HW.out.2.2.2.2.2.1]; exact HT.out.1, HT.out.2.1, by rw [hi_top, HW.out.2.2.2.2.2.1]; have := lenT v hwk; omega⟩
    case round =>
      clear c3
      obtain ⟨rfl, hgk, hbd, hbel, hlen⟩ := hrel
      have HR := Lib.hid (And.intro hbd (And.intro hbel hlen)); clear hbd hbel hlen
      by_cases hg0 : gk = 0
      · subst hg0
        have H := Tryz.Builder_String_any bb bb (decDigits (hi f (k + 1) 0)) wr (Or.inr HR.out.1) (by rw [HW.out.2.2.2.2.2.2]; exact Nat.le_trans (Nat.le_refl _) HR.out.2.1.size)
        have hv0 := HW.out.2.1.bd.1
        rw [hi_zero, show decDigits (val f (k + 1)).toNat = itoa (val f (k + 1)) by rw [Mb.itoa_nonneg hv0]; congr 1; omega] at H
        clear hv0
        go_wp2_with fail
        refine H.mono ?_
        rintro e w5 ⟨rfl, hb5⟩
        have HB5 := Lib.hid (HR.out.2.1.trans hb5)
        clear H hb5
        go_wp2_with fail
        go_ret
        exact ⟨rfl, by rw [← HW.out.2.2.2.2.2.2]; exact HB5.out⟩
      · obtain ⟨j, rfl⟩ : ∃ j, gk = j + 1 := ⟨gk - 1, by omega⟩
        have hjb := HW.out.2.1.wd j
        have k1 := (HW.out.1.below HR.out.2.1 HT.out.2.2).cw j (by omega)
        obtain ⟨u, hu⟩ : ∃ u, f j = u := ⟨_, rfl⟩
        rw [hu] at hjb k1
        have hgd : Good wr := HW.out.2.2.1.to (by rw [← HW.out.2.2.2.2.2.2]; exact HR.out.2.1)
        have H1 := itoa_calls u wr hgd (by unfold B at hjb; omega) (by unfold B at hjb; omega)
        have hls := lenS u hjb
        obtain ⟨s, hs⟩ : ∃ s : ByteArray, s = ⟨(itoa u).toArray⟩ := ⟨_, rfl⟩
        have hsz : s.size ≤ 9 := by rw [hs]; exact hls
        have H2 : Calls Tryz.prog 109 #[.int .i64 u] wr fun e w' => e = .returned (.string s) ∧ Below wr.heap.size wr w' := by rw [hs]; exact H1
        have HU := Lib.hid (And.intro hu (And.intro hs hjb))
        clear H1 hu hs hjb hls hgd hg0
        have i6 : (j : Int) < 232 := by omega
        have i7 : (0 : Int) ≤ (j : Int) := by omega
        have i8 : (s.size : Int) ≤ 9 := by omega
        have i9 : IntKind.i64.wrap ((j : Int) - 1) = (j : Int) - 1 := IntWalk.i64_in _ (by omega)
        go_wp2_with fail
        refine H2.mono ?_
        rintro e w5 ⟨rfl, hb5⟩
        have HB5 := Lib.hid hb5
        have hwb := Bld.to (Or.inr HR.out.1) hb5
        have H3 := fun E hE => wstr_calls bb bb (Lib.byteCells (decDigits (hi f (k + 1) (j + 1)))) E w5 hwb hE (Nat.le_trans (by have := HR.out.2.1.size; rw [HW.out.2.2.2.2.2.2]; exact this) hb5.size)
        clear H2 k1 hb5 hwb
        go_wp2_with fail
        have hE : (({ data := #[48, 48, 48, 48, 48, 48, 48, 48, 48] } : ByteArray).extract s.size 9 ++ s).size = 9 := by
          rw [← Lib.strCells_length, HU.out.2.1, padE u HU.out.2.2, Lib.byteCells_length]
          exact pad9_len (by have := HU.out.2.2; unfold B at this; omega)
        refine (H3 _ ?_).mono ?_
        · rw [hE, Lib.byteCells_length]
          have := HR.out.2.2
          omega
        · rintro e w6 ⟨rfl, h6, hb6⟩
          have e2 : Lib.byteCells (decDigits (hi f (k + 1) (j + 1))) ++ Lib.strCells (({ data := #[48, 48, 48, 48, 48, 48, 48, 48, 48] } : ByteArray).extract s.size 9 ++ s) = Lib.byteCells (decDigits (hi f (k + 1) j)) := by
            rw [HU.out.2.1, padE u HU.out.2.2, text_step (j := j) HW.out.2.1 (by omega), Lib.byteCells_append, HU.out.1]
          rw [e2] at h6
          have HF := Lib.hid (And.intro h6 (HR.out.2.1.trans ((HB5.out.mono (by rw [HW.out.2.2.2.2.2.2]; exact HR.out.2.1.size)).trans hb6)))
          clear H3 h6 hb6 e2 hE
          go_wp2_with fail
          go_roundg j
          case measure => omega
          case rel =>
            refine ⟨by go_num, by omega, HF.out.1, HF.out.2, ?_⟩
            rw [text_step (j := j) HW.out.2.1 (by omega), List.length_append, HU.out.1, pad9_len (by have := HU.out.2.2; unfold B at this; omega)]
            have := HR.out.2.2
            omega

end Go.Proofs.YtgdlfjofefhdoaaGreatDoor

namespace Go.Proofs.YtgdlfjofefhdoaaGreatDoor
open Go.RowKit Go.Sort Go.Lib Mb

set_option maxRecDepth 100000 in
set_option maxHeartbeats 2000000 in
theorem wbyte_calls (B b : Nat) (bs : List Value) (c : Int) (w : World) (h : Bld B b bs w) (hlen : bs.length + 1 ≤ 140737488355328) (hBw : B ≤ w.heap.size) :
    Calls Tryz.prog 178 #[.pointer (some ⟨b, 0, none⟩), .int .u8 c] w fun e w' => e = .returned .nilIface ∧ (Lib.BuilderAt 209 5 B b (.pointer (some ⟨b, 0, none⟩)) (bs ++ [.int .u8 c]) w' ∧ Below B w w') := by
  obtain ⟨i0, hi, hz0, hz1, hz2⟩ := info_parts infoByte
  have H := check_bld B b bs w h
  clear h
  go_enter Tryz.func178, Tryz.ntmps178
  go_wp2_with fail
  refine H.mono ?_
  rintro e w1 ⟨rfl, h1, hb1⟩
  obtain ⟨hB, v, hbk, hown, hne⟩ := h1
  have c0 : w1.cell? ⟨b, 0, none⟩ = some (.pointer (some ⟨b, 0, none⟩)) := by rw [Lib.cell_of_heap hbk]; rfl
  have c1 : w1.cell? ⟨b, 1, none⟩ = some v := by rw [Lib.cell_of_heap hbk]; rfl
  go_wp2_with (at_builtin; refine wpList_append_own _ rfl _ _ 177 rfl B 5 i0 (.int .u8 0) 1 1 Tryz.underlying177 hi hz0 hz1 hz2 rfl (by decide) _ _ _ rfl (hown.alloc _) ⟨w1.heap.size, 0, none⟩ 1 1 [.int .u8 c] rfl rfl ?c1 ?c2 ?c3 ?c4 ?c5 ?_)
  case c1 =>
    intro j u hj
    match j, hj with
    | 0, hj => simp at hj; subst hj; simp [Addr.add]
  case c2 => intro u hu; simp at hu; subst hu; rfl
  case c3 => unfold maxLen; omega
  case c4 => omega
  case c5 => have := hb1.size; simp; omega
  intro v' w2 hown' hgrow _
  have hlt : b < w1.heap.size := (Array.getElem?_eq_some_iff.1 hbk).1
  have hb2 : w2.heap[b]? = some (.cells #[.pointer (some ⟨b, 0, none⟩), v] 209 (0, 0)) := by
    rw [hgrow.block b (by simp; omega) (fun e => hne e.symm), Lib.alloc_old w1 _ b hlt]
    exact hbk
  have d0 : w2.cell? ⟨b, 0, none⟩ = some (.pointer (some ⟨b, 0, none⟩)) := by rw [Lib.cell_of_heap hb2]; rfl
  have d1 : w2.cell? ⟨b, 1, none⟩ = some v := by rw [Lib.cell_of_heap hb2]; rfl
  have f1 : w2.frozen? ⟨b, 1, none⟩ = false := Lib.frozen_of_heap hb2 1
  obtain ⟨g, cap, rfl⟩ : ∃ g cap, v' = .slice (some ⟨g, 0, none⟩) (bs.length + 1) cap := by
    rcases hown'.2 with ⟨_, h0⟩ | ⟨g, cap, cur, hv, _⟩
    · omega
    · exact ⟨g, cap, hv⟩
  go_wp2
  go_ret
  refine ⟨rfl, ?_, ?_⟩
  · exact Lib.BuilderAt.put (T := 209) (e := 5) hB hb2 (bs' := bs ++ [.int .u8 c]) (by simpa using hown') (by decide)
  · exact ((hb1.alloc (by have := hb1.size; omega) _).grown hgrow (by have := hb1.size; simp; omega) (fun k hk => (hown.lt k hk).1)).setCell (p := ⟨b, 1, none⟩) hB _

set_option maxRecDepth 100000 in
set_option maxHeartbeats 3200000 in
theorem textn_calls (b k : Nat) (f : Nat → Int) (w : World) (hg : Good w) (hW : Wide w b true (k + 1) f) (hm : Mag f (k + 1)) :
    Calls Tryz.prog 154 #[.pointer (some ⟨b, 0, none⟩)] w fun e w' => e = .returned (S (-(val f (k + 1)))) ∧ Below w.heap.size w w' := by
  have c1 := hW.c1
  have c0 := hW.c0
  have hle := hm.le
  have cw := hW.cw k (by omega)
  have hwk := hm.wd k
  obtain ⟨v, hv⟩ : ∃ v, f k = v := ⟨_, rfl⟩
  rw [hv] at cw hwk
  obtain ⟨W0, hW0⟩ : ∃ W0, W0 = w.alloc (.cells #[.pointer none, .slice none 0 0] 209) := ⟨_, rfl⟩
  have hbl : Bld w.heap.size w.heap.size [] W0 := by rw [hW0]; exact bld_new w
  have hb1 : Below w.heap.size w W0 := by rw [hW0]; exact alloc_below _ _
  obtain ⟨bb, hbb⟩ : ∃ bb, bb = w.heap.size := ⟨_, rfl⟩
  have HW0 := Lib.hid (And.intro hW (And.intro hm (And.intro hg (And.intro hbl (And.intro hb1 (And.intro hv hbb))))))
  have c0' : (w.alloc (.cells #[.pointer none, .slice none 0 0] 209)).cell? ⟨b, 0, none⟩ = some (.bool true) := by rw [← hW0]; exact cellT c0 hb1
  have HWB := wbyte_calls w.heap.size w.heap.size [] 45 W0 hbl (by simp) hb1.size
  rw [← hbb] at HWB
  have hk0 : ((k : Int) + 1 == 0) = false := by rw [beq_eq_false_iff_ne]; omega
  have i1 : IntKind.i64.wrap (k : Int) = (k : Int) := IntWalk.i64_in _ (by omega)
  have i2 : (k : Int) < 232 := by omega
  have i3 : (0 : Int) ≤ (k : Int) := by omega
  clear hW hg hbl hb1
  go_enter Tryz.func154, Tryz.ntmps154
  go_wp2_with fail
  rw [← hW0, ← hbb]
  refine HWB.mono ?_
  rintro e W1 ⟨rfl, h2, hb2⟩
  clear HWB
  have hbW : Below w.heap.size w W1 := HW0.out.2.2.2.2.1.trans (by rw [← hbb]; exact hb2)
  have h2' : Bld w.heap.size w.heap.size (Lib.byteCells [45]) W1 := by rw [← hbb]; exact Or.inr h2
  have k1 := cell_regrown (cellT c1 hbW)
  have k2 := cell_regrown (cellT cw hbW)
  have q1 : ∀ r d os, CallsIn Fence.wide r Tryz.prog 109 #[.int .i64 v] (grow (redrawn W1 d) os) fun e w'' => e = .returned (S v) ∧ ∃ p : Regrown, w'' = grow (redrawn W1 p.d) p.os := fun r d os => callsIn_wide.2 (Calls.regrown_of (itoa_calls v _ ((HW0.out.2.2.1.to hbW).to (below_regrown W1 d os)) (by unfold B at hwk; omega) (by unfold B at hwk; omega)))
  have HW := Lib.hid (And.intro HW0.out.1 (And.intro HW0.out.2.1 (And.intro HW0.out.2.2.1 (And.intro h2' (And.intro hbW (And.intro HW0.out.2.2.2.2.2.1 hbb))))))
  clear hW0 hbb c0' c0 cw h2 h2' hb2 hbW HW0
  clear W0
  go_wp2_with fail
  refine wp_region_first (fun w' => ∃ p : Regrown, w' = grow (redrawn W1 p.d) p.os) 11 (by kernel_rfl) (by kernel_rfl) (by kernel_rfl) ⟨⟨W1.drawn + 1, #[]⟩, by rw [grow_empty]; rfl⟩ ?_
  simp only [List.take_succ_cons, List.take_zero, List.drop_succ_cons, List.drop_zero]
  repeat (refine wpQuietIn_step (fun _ _ _ _ => trivial) (fun K hK => ?_); go_simp; first | (refine hK _ ?_; clear hK K) | (apply Exists.intro; refine ⟨fun _ => ?_, hK _ ?_⟩; (first | with_reducible exact q1 _ _ _); clear hK K))
  refine wpQuietIn_nil ?_
  intro _ hw'
  obtain ⟨⟨dq, osq⟩, rfl⟩ := hw'
  obtain ⟨W2, hW2⟩ : ∃ W2, W2 = grow (redrawn W1 dq) osq := ⟨_, rfl⟩
  have hb2 : Below W1.heap.size W1 W2 := hW2 ▸ below_regrown W1 dq osq
  rw [← hW2]
  clear hW2 k1 k2 q1
  have hbW2 : Below w.heap.size w W2 := below_trans HW.out.2.2.2.2.1 hb2
  have H := wstr_calls w.heap.size w.heap.size (Lib.byteCells [45]) ⟨(itoa v).toArray⟩ W2 (HW.out.2.2.2.1.to hb2) (by have := lenS v hwk; show 1 + (itoa v).length ≤ _; omega) hbW2.size
  rw [← HW.out.2.2.2.2.2.2] at H
  have fW : Fence.wide.fn 179 := trivial
  gi_wp2_with fail
  refine (callsIn_wide.2 H).mono ?_
  rintro e w3 ⟨rfl, h3, hb3⟩
  have hb4 : Below bb w w3 := (HW.out.2.2.2.2.2.2 ▸ hbW2 : Below bb w W2).trans hb3
  have hlt : b < bb := by rw [HW.out.2.2.2.2.2.2]; exact HW.out.1.lt
  have c3 := (hb4.cell (p := ⟨b, 1, none⟩) hlt).trans c1
  rw [strS v hwk.1, ← Lib.byteCells_append] at h3
  have HT := Lib.hid (And.intro h3 (And.intro hb4 hlt))
  clear H h3 hb4 hlt hb3 hb2 hbW2 c1
  have i4 : IntKind.i64.wrap ((k : Int) - 1) = (k : Int) - 1 := IntWalk.i64_in _ (by omega)
  have i5 : IntKind.i64.wrap ((k : Int) + 1 - 2) = (k : Int) - 1 := by rw [IntWalk.i64_in _ (by omega)]; omega
  gi_wp2
  go_wp2_with fail
  go_loopg [4] k (fun g iv wr => iv = .int .i64 ((g : Int) - 1) ∧ g ≤ k ∧ Lib.BuilderAt 209 5 bb bb (.pointer (some ⟨bb, 0, none⟩)) (Lib.byteCells (45 :: decDigits (hi f (k + 1) g))) wr ∧ Below bb w wr ∧ (decDigits (hi f (k + 1) g)).length ≤ 9 * (k + 1 - g))
  case atStart => exact ⟨rfl, Nat.le_refl _, by rw [hi_top, HW.out.2.2.2.2.2.1]; exact HT.out.1, HT.out.2.1, by rw [hi_top, HW.out.2.2.2.2.2.1]; have := lenT v hwk; omega⟩
  case round =>
    clear c3
    obtain ⟨rfl, hgk, hbd, hbel, hlen⟩ := hrel
    have HR := Lib.hid (And.intro hbd (And.intro hbel hlen)); clear hbd hbel hlen
    by_cases hg0 : gk = 0
    · subst hg0
      have H := Tryz.Builder_String_any bb bb (45 :: decDigits (hi f (k + 1) 0)) wr (Or.inr HR.out.1) (by rw [HW.out.2.2.2.2.2.2]; exact Nat.le_trans (Nat.le_refl _) HR.out.2.1.size)
      have hv0 : 0 < val f (k + 1) := by have h1 := HW.out.2.1.low; have h2 := pow_pos' k; omega
      rw [hi_zero, show 45 :: decDigits (val f (k + 1)).toNat = itoa (-(val f (k + 1))) by rw [Mb.itoa_neg (by omega)]; congr 2; omega] at H
      clear hv0
      go_wp2_with fail
      refine H.mono ?_
      rintro e w5 ⟨rfl, hb5⟩
      have HB5 := Lib.hid (HR.out.2.1.trans hb5)
      clear H hb5
      go_wp2_with fail
      go_ret
      exact ⟨rfl, by rw [← HW.out.2.2.2.2.2.2]; exact HB5.out⟩
    · obtain ⟨j, rfl⟩ : ∃ j, gk = j + 1 := ⟨gk - 1, by omega⟩
      have hjb := HW.out.2.1.wd j
      have k1 := (HW.out.1.below HR.out.2.1 HT.out.2.2).cw j (by omega)
      obtain ⟨u, hu⟩ : ∃ u, f j = u := ⟨_, rfl⟩
      rw [hu] at hjb k1
      have hgd : Good wr := HW.out.2.2.1.to (by rw [← HW.out.2.2.2.2.2.2]; exact HR.out.2.1)
      have H1 := itoa_calls u wr hgd (by unfold B at hjb; omega) (by unfold B at hjb; omega)
      have hls := lenS u hjb
      obtain ⟨s, hs⟩ : ∃ s : ByteArray, s = ⟨(itoa u).toArray⟩ := ⟨_, rfl⟩
      have hsz : s.size ≤ 9 := by rw [hs]; exact hls
      have H2 : Calls Tryz.prog 109 #[.int .i64 u] wr fun e w' => e = .returned (.string s) ∧ Below wr.heap.size wr w' := by rw [hs]; exact H1
      have HU := Lib.hid (And.intro hu (And.intro hs hjb))
      clear H1 hu hs hjb hls hgd hg0
      have i6 : (j : Int) < 232 := by omega
      have i7 : (0 : Int) ≤ (j : Int) := by omega
      have i8 : (s.size : Int) ≤ 9 := by omega
      have i9 : IntKind.i64.wrap ((j : Int) - 1) = (j : Int) - 1 := IntWalk.i64_in _ (by omega)
      go_wp2_with fail
      refine H2.mono ?_
      rintro e w5 ⟨rfl, hb5⟩
      have HB5 := Lib.hid hb5
      have hwb := Bld.to (Or.inr HR.out.1) hb5
      have H3 := fun E hE => wstr_calls bb bb (Lib.byteCells (45 :: decDigits (hi f (k + 1) (j + 1)))) E w5 hwb hE (Nat.le_trans (by have := HR.out.2.1.size; rw [HW.out.2.2.2.2.2.2]; exact this) hb5.size)
      clear H2 k1 hb5 hwb
      go_wp2_with fail
      have hE : (({ data := #[48, 48, 48, 48, 48, 48, 48, 48, 48] } : ByteArray).extract s.size 9 ++ s).size = 9 := by
        rw [← Lib.strCells_length, HU.out.2.1, padE u HU.out.2.2, Lib.byteCells_length]
        exact pad9_len (by have := HU.out.2.2; unfold B at this; omega)
      refine (H3 _ ?_).mono ?_
      · rw [hE, Lib.byteCells_length, List.length_cons]
        have := HR.out.2.2
        omega
      · rintro e w6 ⟨rfl, h6, hb6⟩
        have e2 : Lib.byteCells (45 :: decDigits (hi f (k + 1) (j + 1))) ++ Lib.strCells (({ data := #[48, 48, 48, 48, 48, 48, 48, 48, 48] } : ByteArray).extract s.size 9 ++ s) = Lib.byteCells (45 :: decDigits (hi f (k + 1) j)) := by
          rw [HU.out.2.1, padE u HU.out.2.2, text_step (j := j) HW.out.2.1 (by omega), ← List.cons_append, Lib.byteCells_append, HU.out.1]
        rw [e2] at h6
        have HF := Lib.hid (And.intro h6 (HR.out.2.1.trans ((HB5.out.mono (by rw [HW.out.2.2.2.2.2.2]; exact HR.out.2.1.size)).trans hb6)))
        clear H3 h6 hb6 e2 hE
        go_wp2_with fail
        go_roundg j
        case measure => omega
        case rel =>
          refine ⟨by go_num, by omega, HF.out.1, HF.out.2, ?_⟩
          rw [text_step (j := j) HW.out.2.1 (by omega), List.length_append, HU.out.1, pad9_len (by have := HU.out.2.2; unfold B at this; omega)]
          have := HR.out.2.2
          omega


end Go.Proofs.YtgdlfjofefhdoaaGreatDoor

namespace Go.Proofs.YtgdlfjofefhdoaaGreatDoor
open Go.RowKit Go.Sort Go.Lib Mb

theorem limited_calls (b n : Nat) (f : Nat → Int) (w : World) (hg : Good w) (hW : Wide w b false n f) (hm : Mag f n) (hd : (dg (val f n)).length ≤ 1024) :
    Calls Tryz.prog 125 #[.pointer (some ⟨b, 0, none⟩)] w fun e w' => e = .returned (.tuple #[S (val f n), .int .i64 0]) ∧ Below w.heap.size w w' := by
  have H := text_calls b n f w hg hW hm
  obtain ⟨v, hv⟩ : ∃ v, val f n = v := ⟨_, rfl⟩
  rw [hv] at H hd ⊢
  clear hv hW hm
  go_enter Tryz.func125, Tryz.ntmps125
  go_wp2_with fail
  refine H.mono ?_
  rintro e w1 ⟨rfl, hb1⟩
  clear H
  go_wp2_with fail
  refine (check_calls v _ hd).mono ?_
  rintro e w2 ⟨rfl, hb2⟩
  go_wp2_with fail
  go_ret2
  exact ⟨rfl, below_trans hb1 hb2⟩

theorem mag_words {f : Nat → Int} {m p : Nat} (h : Mag f m) (hv : val f m < B ^ p) : m ≤ p := by
  rcases Nat.lt_or_ge p m with hlt | hge
  · obtain ⟨k, rfl⟩ : ∃ k, m = k + 1 := ⟨m - 1, by omega⟩
    have h1 := h.low
    have h2 := pow_mono (show p ≤ k by omega)
    omega
  · exact hge

theorem natAbs_mul' (a b : Int) (hs : decide (a < 0) = decide (b < 0)) : (a.natAbs : Int) * (b.natAbs : Int) = a * b := by
  by_cases ha : a < 0
  · have hb : b < 0 := by have := hs; rw [decide_eq_true ha] at this; exact of_decide_eq_true this.symm
    rw [show (a.natAbs : Int) = -a by omega, show (b.natAbs : Int) = -b by omega, Int.neg_mul_neg]
  · have hb : ¬ b < 0 := by have := hs; rw [decide_eq_false ha] at this; exact of_decide_eq_false this.symm
    rw [show (a.natAbs : Int) = a by omega, show (b.natAbs : Int) = b by omega]

set_option maxHeartbeats 1600000 in
theorem mul_calls (a b : Int) (p q : Nat) (w : World) (hg : Good w) (hs : decide (a < 0) = decide (b < 0)) (ha : (a.natAbs : Int) < B ^ p) (hb : (b.natAbs : Int) < B ^ q) (hpq : p + q ≤ 232) (hda : (dg a).length ≤ 1024) (hdb : (dg b).length ≤ 1024) (hd : (dg (a * b)).length ≤ 1024) :
    Calls Tryz.prog 73 #[S a, S b] w fun e w' => e = .returned (.tuple #[S (a * b), .int .i64 0]) ∧ Below w.heap.size w w' := by
  by_cases hsh : (itoa a).length ≤ 9 ∧ (itoa b).length ≤ 9
  · exact mul_short a b w hg hsh.1 hsh.2
  · have HH := Lib.hid (And.intro hg (And.intro hs (And.intro ha (And.intro hb (And.intro hpq hd))))); clear hg hs ha hb hpq hd
    go_enter Tryz.func73, Tryz.ntmps73
    go_wp2_with fail
    refine (all_calls [a, b] _ _ _ (txts2 w a b _) (by simp [hda, hdb]) (by simp)).mono ?_
    rintro e w1 ⟨rfl, hb1⟩
    go_wp2_with fail
    refine (small_no a b _ (by omega)).mono ?_
    rintro e w2 ⟨rfl, hb2⟩
    have H2 := Lib.hid (below_trans (below_trans (alloc_below w _) hb1) hb2); clear hb1 hb2
    go_wp2_with fail
    refine (read_calls a _ hda).mono ?_
    rintro e w3 ⟨b1, m1, f1, rfl, _, hm1, hv1, hw1, hb3⟩
    have H3 := Lib.hid (And.intro hm1 (And.intro hv1 (And.intro hw1 (below_trans H2.out hb3)))); clear hm1 hv1 hw1 hb3
    go_wp2_with fail
    refine (read_calls b _ hdb).mono ?_
    rintro e w4 ⟨b2, m2, f2, rfl, _, hm2, hv2, hw2, hb4⟩
    have H4 := Lib.hid (And.intro hm2 (And.intro hv2 (And.intro hw2 (And.intro (H3.out.2.2.1.to hb4) (below_trans H3.out.2.2.2 hb4))))); clear hm2 hv2 hw2 hb4
    have hp1 : m1 ≤ p := mag_words H3.out.1 (by rw [H3.out.2.1]; exact HH.out.2.2.1)
    have hp2 : m2 ≤ q := mag_words H4.out.1 (by rw [H4.out.2.1]; exact HH.out.2.2.2.1)
    have hpq := HH.out.2.2.2.2.1
    go_wp2_with fail
    refine (times_calls b1 b2 _ _ m1 m2 f1 f2 _ H4.out.2.2.2.1 H4.out.2.2.1 H3.out.1 H4.out.1 (by omega)).mono ?_
    rintro e w5 ⟨b3, m3, f3, rfl, _, hm3, hv3, hw3, hb5⟩
    rw [H3.out.2.1, H4.out.2.1, natAbs_mul' a b HH.out.2.1] at hv3
    rw [show (decide (a < 0) != decide (b < 0)) = false by rw [HH.out.2.1]; simp] at hw3
    have H5 := Lib.hid (And.intro hm3 (And.intro hv3 (And.intro hw3 (below_trans H4.out.2.2.2.2 hb5)))); clear hm3 hv3 hw3 hb5 hp1 hp2 hpq
    have HL := limited_calls b3 m3 f3 w5 (HH.out.1.to H5.out.2.2.2) H5.out.2.2.1 H5.out.1 (by rw [H5.out.2.1]; exact HH.out.2.2.2.2.2)
    rw [H5.out.2.1] at HL
    go_wp2_with fail
    refine HL.mono ?_
    rintro e w6 ⟨rfl, hb6⟩
    clear HL
    go_wp2_with fail
    go_ret2
    exact ⟨rfl, below_trans H5.out.2.2.2 hb6⟩

set_option maxRecDepth 100000 in
set_option maxHeartbeats 1600000 in
theorem sum_calls (a b : Int) (blk : Nat) (w : World) (hg : Good w) (hT : Txts w blk [a, b]) (ha : 0 ≤ a) (hb : 0 ≤ b) (hr : a + b < B ^ 232) (hda : (dg a).length ≤ 1024) (hdb : (dg b).length ≤ 1024) (hd : (dg (a + b)).length ≤ 1024) :
    Calls Tryz.prog 126 #[.slice (some ⟨blk, 0, none⟩) 2 2] w fun e w' => e = .returned (.tuple #[S (a + b), .int .i64 0]) ∧ Below w.heap.size w w' := by
  have t0 := hT.2 0 (by simp)
  have t1 := hT.2 1 (by simp)
  simp only [List.getElem_cons_zero, List.getElem_cons_succ] at t0 t1
  have HH := Lib.hid (And.intro hg (And.intro t0 (And.intro t1 hr))); clear hg t0 t1 hT hr
  go_enter Tryz.func126, Tryz.ntmps126
  go_wp2_with fail
  rw [zero_wc]
  obtain ⟨w1, hw1⟩ : ∃ w1, w1 = w.alloc (.cells (wc false 0 (fun _ => 0)) 193) := ⟨_, rfl⟩
  rw [← hw1]
  have hW : Wide w1 w.heap.size false 0 (fun _ => 0) := by rw [hw1]; exact wide_new _ _ _ _
  have hB : Below w.heap.size w w1 := by rw [hw1]; exact alloc_below _ _
  clear hw1
  obtain ⟨x, hx⟩ : ∃ x, x = w.heap.size := ⟨_, rfl⟩
  rw [← hx] at hW ⊢
  have HX := Lib.hid hx; clear hx
  go_loopg [11] 2 (fun g v wr => ∃ (i m : Nat) (f : Nat → Int), i + g = 2 ∧ v = .int .i64 i ∧ Mag f m ∧ val f m = (if i = 0 then 0 else if i = 1 then a else a + b) ∧ Wide wr x false m f ∧ Below w.heap.size w wr)
  case atStart => exact ⟨0, 0, fun _ => 0, rfl, rfl, Mag.zero, rfl, hW, hB⟩
  case round =>
    clear hW hB
    obtain ⟨i, m, f, hi, rfl, hm, hv, hW, hbel⟩ := hrel
    match i, hi with
    | 0, hi =>
      have t0 := cellT HH.out.2.1 hbel
      have H0 := Lib.hid (And.intro hm (And.intro hv (And.intro hW hbel))); clear hm hv hW hbel
      go_wp2_with fail
      refine (read_calls a _ hda).mono ?_
      rintro e w2 ⟨b1, m1, f1, rfl, hnew, hm1, hv1, hw1, hb2⟩
      rw [decide_eq_false (by omega)] at hw1
      have hne : x ≠ b1 := by have := H0.out.2.2.1.lt; omega
      have H := plus_calls x b1 m m1 f f1 w2 (H0.out.2.2.1.to hb2) hw1 hne H0.out.1 hm1 (by rw [H0.out.2.1, hv1]; have := HH.out.2.2.2; simp; omega)
      rw [H0.out.2.1, hv1] at H
      have H2 := Lib.hid (below_trans H0.out.2.2.2 hb2); clear hw1 hm1 hv1 hb2 t0 hnew hne
      go_wp2_with fail
      refine H.mono ?_
      rintro e w3 ⟨rfl, h3, hg3⟩
      have H3 := Lib.hid (And.intro h3 hg3); clear H h3 hg3
      go_wp2_with fail
      go_roundg 1
      case measure => omega
      case rel =>
        obtain ⟨⟨m', f', h1, h2, h3⟩, h4⟩ := H3.out
        exact ⟨1, m', f', rfl, rfl, h1, by rw [h2]; simp; omega, h3, below_gb H2.out h4 H2.out.size (by rw [HX.out]; exact Nat.le_refl _)⟩
    | 1, hi =>
      have t1 := cellT HH.out.2.2.1 hbel
      have H0 := Lib.hid (And.intro hm (And.intro hv (And.intro hW hbel))); clear hm hv hW hbel
      go_wp2_with fail
      refine (read_calls b _ hdb).mono ?_
      rintro e w2 ⟨b1, m1, f1, rfl, hnew, hm1, hv1, hw1, hb2⟩
      rw [decide_eq_false (by omega)] at hw1
      have hne : x ≠ b1 := by have := H0.out.2.2.1.lt; omega
      have hv0 : val f m = a := by rw [H0.out.2.1]; simp
      have H := plus_calls x b1 m m1 f f1 w2 (H0.out.2.2.1.to hb2) hw1 hne H0.out.1 hm1 (by rw [hv0, hv1]; have := HH.out.2.2.2; omega)
      rw [hv0, hv1] at H
      have H2 := Lib.hid (below_trans H0.out.2.2.2 hb2); clear hw1 hm1 hv1 hb2 t1 hnew hne hv0
      go_wp2_with fail
      refine H.mono ?_
      rintro e w3 ⟨rfl, h3, hg3⟩
      have H3 := Lib.hid (And.intro h3 hg3); clear H h3 hg3
      go_wp2_with fail
      go_roundg 0
      case measure => omega
      case rel =>
        obtain ⟨⟨m', f', h1, h2, h3⟩, h4⟩ := H3.out
        exact ⟨2, m', f', rfl, rfl, h1, by rw [h2]; simp; omega, h3, below_gb H2.out h4 H2.out.size (by rw [HX.out]; exact Nat.le_refl _)⟩
    | 2, hi =>
      have hv' : val f m = a + b := by rw [hv]; simp
      have HL := limited_calls x m f wr (HH.out.1.to hbel) hW hm (by rw [hv']; exact hd)
      rw [hv'] at HL
      have H0 := Lib.hid hbel; clear hm hv hW hbel hv'
      go_wp2_with fail
      refine HL.mono ?_
      rintro e w6 ⟨rfl, hb6⟩
      clear HL
      go_wp2_with fail
      go_ret2
      exact ⟨rfl, below_trans H0.out hb6⟩
    | i + 3, hi => omega

set_option maxHeartbeats 1600000 in
theorem add_calls (a b : Int) (w : World) (hg : Good w) (ha : 0 ≤ a) (hb : 0 ≤ b) (hr : a + b < B ^ 232) (hda : (dg a).length ≤ 1024) (hdb : (dg b).length ≤ 1024) (hd : (dg (a + b)).length ≤ 1024) :
    Calls Tryz.prog 74 #[S a, S b] w fun e w' => e = .returned (.tuple #[S (a + b), .int .i64 0]) ∧ Below w.heap.size w w' := by
  by_cases hsh : (itoa a).length ≤ 9 ∧ (itoa b).length ≤ 9
  · exact add_short a b w hg hsh.1 hsh.2
  · have HH := Lib.hid (And.intro hg hr); clear hg hr
    go_enter Tryz.func74, Tryz.ntmps74
    go_wp2_with fail
    refine (all_calls [a, b] _ _ _ (txts2 w a b _) (by simp [hda, hdb]) (by simp)).mono ?_
    rintro e w1 ⟨rfl, hb1⟩
    go_wp2_with fail
    refine (small_no a b _ (by omega)).mono ?_
    rintro e w2 ⟨rfl, hb2⟩
    have H2 := Lib.hid (below_trans (below_trans (alloc_below w _) hb1) hb2); clear hb1 hb2
    go_wp2_with fail
    refine (sum_calls a b _ _ ((HH.out.1.to H2.out).alloc _) (txts2 w2 a b _) ha hb HH.out.2 hda hdb hd).mono ?_
    rintro e w3 ⟨rfl, hb3⟩
    go_wp2_with fail
    go_ret2
    exact ⟨rfl, below_trans H2.out (below_trans (alloc_below _ _) hb3)⟩

end Go.Proofs.YtgdlfjofefhdoaaGreatDoor
