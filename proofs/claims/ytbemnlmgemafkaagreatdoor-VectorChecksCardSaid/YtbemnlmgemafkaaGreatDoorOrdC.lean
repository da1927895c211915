/- Package vector: Order. -/
import Derived.Test.YtbemnlmgemafkaaGreatDoorOrdB
namespace Go.Proofs.YtbemnlmgemafkaaGreatDoor
open Go.RowKit Go.Sort Go.Lib Mb

/-- an index of a list of n points, as the program has it -/
abbrev eN (n : Nat) (x : Nat) : Value := .int .i64 ((x % n : Nat) : Int)
/-- the order of indices -/
def ltI (l : List P2) (x y : Nat) : Bool := bef (g2 l (x % l.length)) (g2 l (y % l.length))
/-- the indices in the order of their points -/
def srt (l : List P2) : Array Nat := Sort.insertionSort (ltI l) (Array.range l.length) 0 l.length

theorem range_get {n j : Nat} (h : j < n) : (Array.range n)[j]! = j := by simp [h]

/-- the row is being filled: its first i cells hold their own places -/
def Fil (w : World) (blk n i : Nat) : Prop := blk < w.heap.size ∧ ∀ j, j < n → (∃ u, w.cell? ⟨blk, j, none⟩ = some u ∧ (j < i → u = .int .i64 (j : Int))) ∧ w.frozen? ⟨blk, j, none⟩ = false
theorem Fil.to {w w' : World} {blk n i : Nat} (h : Fil w blk n i) (hb : Below w.heap.size w w') : Fil w' blk n i := ⟨Nat.lt_of_lt_of_le h.1 hb.size, fun j hj => by
  obtain ⟨⟨u, hu, hi⟩, hf⟩ := h.2 j hj
  refine ⟨⟨u, cell_to hu hb, hi⟩, ?_⟩
  have := hb.block blk h.1
  simp only [World.frozen?] at hf ⊢
  rw [this]; exact hf⟩
theorem Fil.step {w : World} {blk n i : Nat} (h : Fil w blk n i) : Fil (w.setCell ⟨blk, i, none⟩ (.int .i64 (i : Int))) blk n (i + 1) := ⟨by simpa using h.1, fun j hj => by
  obtain ⟨⟨u, hu, hi⟩, hf⟩ := h.2 j hj
  refine ⟨?_, by rw [World.frozen?_setCell]; exact hf⟩
  by_cases e : i = j
  · subst e
    exact ⟨_, World.cell?_setCell_same' _ _ _ (by rw [hu]; rfl), fun _ => rfl⟩
  · refine ⟨u, ?_, fun h2 => hi (by omega)⟩
    rw [World.cell?_setCell_other]
    · exact hu
    · intro e2
      injection e2 with e3 e4 e5
      exact e e4⟩
theorem fil_made {w' : World} {base blk n : Nat} {e : TypeId} {xs : List Value} (h : w'.ownsRow base e 1 (.slice (some ⟨blk, 0, none⟩) n n) n xs) : Fil w' blk n 0 := by
  obtain ⟨hl, ⟨h1, _⟩ | ⟨g, cap, cur, hv, _, hc, hn, _, hs, _⟩⟩ := h
  · cases h1
  · injection hv with e1 e2 e3
    injection e1 with e1
    injection e1 with e1 _ _
    subst e1
    refine ⟨(Array.getElem?_eq_some_iff.1 hc).1, fun j hj => ⟨⟨cur[j]'(by omega), by simp [World.cell?, hc, show j < cur.size by omega], fun h => absurd h (Nat.not_lt_zero _)⟩, by simp [World.frozen?, hc]⟩⟩
theorem Fil.holds {w : World} {blk n : Nat} (h : Fil w blk n n) : Holds (eN n) w blk 0 (Array.range n) := fun j hj => by
  have hj' : j < n := by simpa using hj
  obtain ⟨⟨u, hu, hi⟩, hf⟩ := h.2 j hj'
  rw [Nat.zero_add, range_get hj']
  refine ⟨?_, hf⟩
  rw [hu, hi hj']
  show _ = some (Value.int .i64 ((j % n : Nat) : Int))
  rw [Nat.mod_eq_of_lt hj']

/-- a world of the sort's keeps what lies below the row -/
theorem below_sw {B : Nat} {n : Nat} {w w' : World} {blk : Nat} {d : Array Nat} (h : SW (eN n) w blk 0 d w') (h1 : B ≤ blk) (h2 : B ≤ w.heap.size) : Below B w w' := by
  obtain ⟨m, os, rfl⟩ := h
  refine ⟨rfl, rfl, rfl, by simp [sortWorld, grow, putRow, mapBlock], fun k hk => ?_⟩
  have h3 : k < w.heap.size := by omega
  simp only [sortWorld, grow, putRow, mapBlock]
  rw [Array.getElem?_append_left (by simpa using h3), Array.getElem?_modify, if_neg (by omega)]
  rfl

theorem cell_sw {n : Nat} {w : World} {blk m c i : Nat} {d : Array Nat} {os : Array Obj} {v : Value} (h : w.cell? ⟨c, i, none⟩ = some v) (hc : c ≠ blk) : (sortWorld (eN n) w blk 0 m d os).cell? ⟨c, i, none⟩ = some v := by
  have hlt := World.block_lt_of_cell? _ _ h
  have e : (sortWorld (eN n) w blk 0 m d os).heap[c]? = w.heap[c]? := by
    simp only [sortWorld, grow, putRow, mapBlock]
    rw [Array.getElem?_append_left (by simpa using hlt), Array.getElem?_modify, if_neg (fun h => hc h.symm)]
    rfl
  rw [← h]
  exact World.cell?_of_block (w := w) e

theorem infoInt : (Tryz.prog.info? 3).map (fun i => (i.zero, i.size, i.bytes)) = some (some (.int .i64 0), 1, 8) := by kernel_rfl

/-- the library's stable sort where nothing is to be sorted -/
theorem stable0_calls (g : Nat) (cb : Array Value) (blk cap : Nat) (w : World) :
    Calls Tryz.prog 84 #[.slice (some ⟨blk, 0, none⟩) 0 cap, .func (.func g) #[] cb] w fun e w' => e = .returned (.tuple #[]) ∧ w = w' := by
  have h : Calls Tryz.prog 146 #[.slice (some ⟨blk, 0, none⟩) 0 cap, .int .i64 0, .int .i64 0, .func (.func g) #[] cb] w fun e w' => e = .returned (.tuple #[]) ∧ w = w' := by
    go_enter Tryz.func146, Tryz.ntmps146
    go_wp2_with fail
    go_loopg [8] 0 (fun g b wr => b = .int .i64 1 ∧ w = wr)
    case atStart => exact ⟨rfl, rfl⟩
    case round =>
      obtain ⟨rfl, rfl⟩ := hrel
      go_wp2_with fail
      go_end0
      exact ⟨rfl, rfl⟩
  have H : Calls Tryz.prog 123 #[.slice (some ⟨blk, 0, none⟩) 0 cap, .int .i64 0, .func (.func g) #[] cb] w fun e w' => e = .returned (.tuple #[]) ∧ w = w' := by
    go_enter Tryz.func123, Tryz.ntmps123
    go_wp2_with fail
    go_loopg [7, 8] 0 (fun g a b wr => a = .int .i64 0 ∧ b = .int .i64 20 ∧ w = wr)
    case atStart => exact ⟨rfl, rfl, rfl⟩
    case round =>
      obtain ⟨rfl, rfl, rfl⟩ := hrel
      go_wp2_with fail
      refine h.mono ?_
      rintro e w1 ⟨rfl, rfl⟩
      clear h
      go_wp2_with fail
      go_loopg [6] 0 (fun g b wr => b = .int .i64 20 ∧ w = wr)
      case atStart => exact ⟨rfl, rfl⟩
      case round =>
        obtain ⟨rfl, rfl⟩ := hrel
        go_wp2_with fail
        go_end0
        exact ⟨rfl, rfl⟩
  clear h
  go_enter Tryz.func84, Tryz.ntmps84
  go_wp2_with fail
  refine H.mono ?_
  rintro e w1 ⟨rfl, rfl⟩
  clear H
  go_wp2_with fail
  go_end0
  exact ⟨rfl, rfl⟩

/-- what both lists of indices hold -/
def Ixs (w : World) (v : Value) (l : List P2) : Prop := ∃ (a : Option Addr) (cp : Nat), v = .slice a l.length cp ∧ ∀ j, j < l.length → ∃ b, a = some ⟨b, 0, none⟩ ∧ w.cell? ⟨b, j, none⟩ = some (eN l.length (srt l)[j]!)

theorem inner_size {α : Type} [Inhabited α] (lt : α → α → Bool) (a : Nat) : ∀ (j : Nat) (d : Array α), (Sort.insInner lt a j d).size = d.size
  | 0, d => by rw [Sort.insInner]
  | j + 1, d => by
    rw [Sort.insInner]
    split
    · rw [inner_size lt a j]; simp [swp]
    · rfl
theorem outer_size {α : Type} [Inhabited α] (lt : α → α → Bool) (a b : Nat) : ∀ (k i : Nat) (d : Array α), b - i = k → (Sort.insOuter lt a b i d).size = d.size
  | 0, i, d, h => by rw [insOuter_stop _ _ _ _ _ (by omega)]
  | k + 1, i, d, h => by rw [insOuter_go _ _ _ _ _ (by omega), outer_size lt a b k (i + 1) _ (by omega), inner_size]
theorem ins_size {α : Type} [Inhabited α] (lt : α → α → Bool) (a b : Nat) (d : Array α) : (Sort.insertionSort lt d a b).size = d.size := outer_size lt a b _ _ d rfl

set_option maxHeartbeats 3200000 in
theorem order_calls (l : List P2) (a : Option Addr) (cap : Nat) (w : World) (hT : Sl2 w a l) (hn : l.length ≤ 8) (he : errOf l = 0) :
    Calls Tryz.prog 39 #[.slice a l.length cap] w fun e w' => (∃ v, e = .returned (.tuple #[v, .int .i64 0]) ∧ Ixs w' v l) ∧ Below w.heap.size w w' := by
  have hL : errL l = 0 := by unfold errL; rw [if_neg (by omega), he]
  have H := fun W b => checkP_calls l a cap W b (by omega)
  rw [hL] at H
  have HT := Lib.hid (And.intro hT he); clear hT hL he
  obtain ⟨W0, hW0⟩ : ∃ W0, W0 = w.alloc (.cells #[.slice a l.length cap] 57) := ⟨_, rfl⟩
  have hb0 : Below w.heap.size w W0 := by rw [hW0]; exact alloc_below _ _
  have hc0 : W0.cell? ⟨w.heap.size, 0, none⟩ = some (.slice a l.length cap) := by rw [hW0]; exact cell_new _ _ _ _ _ rfl
  go_enter Tryz.func39, Tryz.ntmps39
  go_wp2_with fail
  rw [← hW0]
  clear hW0
  obtain ⟨Bs, hBs⟩ : ∃ Bs, Bs = w.heap.size := ⟨_, rfl⟩
  rw [← hBs] at hc0 ⊢
  clear hBs
  refine (H _ (HT.out.1.to hb0)).mono ?_
  rintro e w1 ⟨rfl, hb1⟩
  have hc1 := cell_to hc0 hb1
  have hb2 := below_trans hb0 hb1
  clear hc0 hb0 hb1 H
  obtain ⟨i0, hi0, hz0, hz1, hz2⟩ := info_parts infoInt
  go_wp2_with (at_make; refine wpList_make_full _ rfl (.tmp 13) (.tmp 13) 70 rfl w1.heap.size 3 i0 (.int .i64 0) 1 Tryz.underlying70 hi0 hz0 hz1 .i64 .i64 _ _ l.length rfl rfl rfl rfl (by rw [hz2]; omega) (by unfold maxLen; omega) (Nat.le_refl _) ?_; intro w2 hown hgrow)
  have hf0 := fil_made hown
  have hbw : Below w1.heap.size w1 w2 := (Below.refl _ _).grown hgrow (Nat.le_refl _) (fun k e => by cases e)
  have hltB : Bs < w1.heap.size := World.block_lt_of_cell? _ _ hc1
  obtain ⟨blk, hblk⟩ : ∃ blk, blk = w1.heap.size := ⟨_, rfl⟩
  rw [← hblk] at hf0
  have HG := Lib.hid (And.intro hblk (And.intro hbw (And.intro hc1 (And.intro hb2 hltB))))
  rw [← hblk]
  clear hown hgrow hbw hc1 hb2 hltB hblk
  go_loopg [17] l.length (fun g v wr => ∃ i : Nat, i + g = l.length ∧ v = .int .i64 i ∧ Fil wr blk l.length i ∧ Below w1.heap.size w1 wr)
  case atStart => exact ⟨0, Nat.zero_add _, rfl, hf0, HG.out.2.1⟩
  case round =>
    clear hf0
    obtain ⟨i, hi, rfl, hF, hbel⟩ := hrel
    by_cases hlt : i < l.length
    · obtain ⟨⟨u, hu, -⟩, hfz⟩ := hF.2 i hlt
      have HF := Lib.hid (And.intro hF hbel); clear hF hbel
      have i1 : ((i : Int) < l.length) := by omega
      have z1 : (0 : Int) ≤ (i : Int) := by omega
      have n1 : l ≠ [] := by intro e; rw [e] at hlt; exact Nat.not_lt_zero _ hlt
      go_wp2_with fail
      go_roundg (l.length - i - 1)
      case measure => omega
      case rel => exact ⟨i + 1, by omega, by go_num, HF.out.1.step, HF.out.2.setCell (p := ⟨blk, i, none⟩) (by show w1.heap.size ≤ blk; rw [HG.out.1]; exact Nat.le_refl _) _⟩
    · have hil : i = l.length := by omega
      subst hil
      have hcB := (hbel.cell (p := ⟨Bs, 0, none⟩) HG.out.2.2.2.2).trans HG.out.2.2.1
      have hb7 := below_trans HG.out.2.2.2.1 hbel
      have hT1 := HT.out.1.to HG.out.2.2.2.1
      by_cases hz : l.length = 0
      · have HI : Ixs wr (.slice (some ⟨blk, 0, none⟩) l.length l.length) l := ⟨_, _, rfl, fun j hj => by omega⟩
        have HI := Lib.hid HI
        have HB7 := Lib.hid hb7
        clear hF hbel hcB hT1 hb7
        have hs := stable0_calls 85 #[.pointer (some ⟨Bs, 0, none⟩)] blk 0 wr
        rw [hz] at HI ⊢
        go_wp2_with fail
        refine hs.mono ?_
        rintro e w4 ⟨rfl, rfl⟩
        clear hs
        go_wp2_with fail
        go_ret2
        exact ⟨⟨_, rfl, HI.out⟩, HB7.out⟩
      · have n0 : 0 < l.length := by omega
        have hcmp : CmpLays1 Tryz.prog 85 #[.pointer (some ⟨Bs, 0, none⟩)] (eN l.length) (fun x y => c2v (g2 l (x % l.length)) (g2 l (y % l.length))) blk 0 l.length wr := fun m os dk hs x y => by
          have hx : x % l.length < l.length := Nat.mod_lt _ n0
          have hy : y % l.length < l.length := Nat.mod_lt _ n0
          obtain ⟨b, o, rfl, hb, c1, c2⟩ := g2_cells hT1 hx
          obtain ⟨b', o', e', -, c3, c4⟩ := g2_cells hT1 hy
          cases e'
          have hne : b ≠ blk := by rw [HG.out.1]; omega
          have hneB : Bs ≠ blk := by rw [HG.out.1]; have := HG.out.2.2.2.2; omega
          exact ord1_calls l Bs b o cap (x % l.length) (y % l.length) _ (cell_sw hcB hneB) hx hy (by omega) (cell_sw (cell_to c1 hbel) hne) (cell_sw (cell_to c2 hbel) hne) (cell_sw (cell_to c3 hbel) hne) (cell_sw (cell_to c4 hbel) hne)
        have hs := stable_calls (eN l.length) (fun _ => rfl) l.length hn 85 #[.pointer (some ⟨Bs, 0, none⟩)] (fun x y => c2v (g2 l (x % l.length)) (g2 l (y % l.length))) blk l.length (Array.range l.length) (by simp) wr (enters_of Tryz.func85 (by kernel_rfl) rfl) hcmp hF.holds hF.1
        have hlt : ltOf (fun x y => c2v (g2 l (x % l.length)) (g2 l (y % l.length))) = ltI l := by
          funext x y
          exact c2v_lt _ _
        rw [hlt] at hs
        have HS : Calls Tryz.prog 84 #[.slice (some ⟨blk, 0, none⟩) l.length l.length, .func (.func 85) #[] #[.pointer (some ⟨Bs, 0, none⟩)]] wr fun e w' => e = .returned (.tuple #[]) ∧ (Ixs w' (.slice (some ⟨blk, 0, none⟩) l.length l.length) l ∧ Below w.heap.size w w') := hs.mono fun e w' ⟨he, hw⟩ => by
          have hsz : (srt l).size = l.length := by
            have := ins_size (ltI l) 0 l.length (Array.range l.length)
            simpa [srt] using this
          have R : Row1 (eN l.length) wr blk 0 (Array.range l.length) := ⟨fun _ => rfl, hF.holds, hF.1⟩
          refine ⟨he, ⟨_, _, rfl, fun j hj => ⟨blk, rfl, ?_⟩⟩, ?_⟩
          · have := SW.c1 (dk := srt l) hw R (by rw [hsz]; simp) j (by omega)
            rwa [Nat.zero_add] at this
          · refine hb7.trans (below_sw hw ?_ hb7.size)
            rw [HG.out.1]; exact Nat.le_trans HG.out.2.2.2.1.size (Nat.le_refl _)
        clear hs hcmp hlt hF hbel hcB hT1 hb7
        go_wp2_with fail
        refine HS.mono ?_
        rintro e w4 ⟨rfl, h1, h2⟩
        have HI := Lib.hid (And.intro h1 h2)
        clear HS h1 h2
        go_wp2_with fail
        go_ret2
        exact ⟨⟨_, rfl, HI.out.1⟩, HI.out.2⟩

end Go.Proofs.YtbemnlmgemafkaaGreatDoor
