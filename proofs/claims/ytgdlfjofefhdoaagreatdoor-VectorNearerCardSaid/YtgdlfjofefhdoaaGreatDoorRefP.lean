/- The reference's decimal texts, as on paper: bare, column, less, wide. -/
import Derived.Test.YtgdlfjofefhdoaaGreatDoorVecA
import Derived.Test.YtgdlfjofefhdoaaGreatDoorPapD
import Derived.Laws.BytesArg
import Derived.Laws.CopyRow
import Derived.OwnWalk
import Derived.IntWalk
namespace Go.Proofs.YtgdlfjofefhdoaaGreatDoor
open Go.RowKit Go.Sort Go.Lib Mb

abbrev Tx (l : List UInt8) : Value := .string ⟨l.toArray⟩
abbrev Dd (u : Nat) : Value := Tx (decDigits u)

theorem ret_s {a b : ByteArray} (h : a = b) : Ending.returned (.string a) = .returned (.string b) := by rw [h]

/-- bytes as cells -/
def bc (l : List UInt8) : Array Value := (l.map fun b => Value.int .u8 (b.toNat : Int)).toArray
theorem bc_size (l : List UInt8) : (bc l).size = l.length := by simp [bc]
theorem bc_get {l : List UInt8} {i : Nat} (h : i < l.length) : (bc l)[i]? = some (.int .u8 (l[i].toNat : Int)) := by simp [bc, h]

theorem strOfNums_bytes (l : List UInt8) : strOfNums (l.map fun b => (b.toNat : Int)) = ⟨l.toArray⟩ := by
  unfold strOfNums
  congr 2
  rw [List.map_map]
  conv => rhs; rw [← List.map_id l]
  refine List.map_congr_left fun b _ => ?_
  show UInt8.ofNat ((b.toNat : Int).toNat) = b
  rw [Int.toNat_natCast]
  exact UInt8.ofNat_toNat

/-- string(b) of cells that hold bytes -/
theorem conv_row (w : World) (b len cap : Nat) (l : List UInt8) (hl : l.length = len) (hc : ∀ i (h : i < l.length), w.cell? ⟨b, i, none⟩ = some (.int .u8 (l[i].toNat : Int))) :
    (convert 177 9 (.slice (some ⟨b, 0, none⟩) len cap)).run Tryz.prog w = .ok (Tx l) w := by
  have h := run_convert_bytes_arg (P := Tryz.prog) w 177 5 Tryz.underlying177 Tryz.underlying5 b 0 len cap (l.map fun b => (b.toNat : Int)) (by simpa using hl) (fun i hi => by
    have hi' : i < l.length := by omega
    rw [Nat.zero_add, hc i hi']
    simp [List.getD, hi']) 9 Tryz.underlying9
  rw [h, strOfNums_bytes]

theorem conv_one (w : World) (b : UInt8) : (convert 177 9 (.slice (some ⟨w.heap.size, 0, none⟩) 1 1)).run Tryz.prog (w.alloc (.cells #[.int .u8 (b.toNat : Int)] 5)) = .ok (Tx [b]) (w.alloc (.cells #[.int .u8 (b.toNat : Int)] 5)) :=
  conv_row _ _ 1 1 [b] rfl (fun i hi => by
    have : i = 0 := by simpa using hi
    subst this
    exact cell_new _ _ _ _ _ rfl)

set_option maxHeartbeats 800000 in
theorem bare_calls (l : List UInt8) (w : World) (hd : Dig l) (hn : l ≠ []) (hl : l.length ≤ 1000000) :
    Calls Tryz.prog 184 #[Tx l] w fun e w' => e = .returned (Dd (dv l)) ∧ w = w' := by
  go_enter Tryz.func184, Tryz.ntmps184
  go_wp2_with fail
  go_loopg [0] l.length (fun g v wr => ∃ (t : List UInt8) (s : ByteArray), v = .string s ∧ s = ⟨t.toArray⟩ ∧ t.length = g ∧ dv t = dv l ∧ Dig t ∧ t ≠ [] ∧ t.length ≤ l.length ∧ w = wr)
  case atStart => exact ⟨l, _, rfl, rfl, rfl, rfl, hd, hn, Nat.le_refl _, rfl⟩
  case round =>
    obtain ⟨t, s, rfl, hs, hg, hv, hdt, hnt, hle, rfl⟩ := hrel
    have H := Lib.hid (And.intro hg (And.intro hv (And.intro hdt hnt))); clear hg hv hdt hnt hd hn
    by_cases h1 : 1 < t.length
    · have hsz : s.size = t.length := by rw [hs]; simp [ByteArray.size]
      have i1 : (1 : Int) < (s.size : Int) := by omega
      have i2 : 1 < s.size := by omega
      have i3 : 0 < s.size := by omega
      have i4 : (s.size : Int) ≤ 1000000 := by omega
      by_cases h2 : t.head? = some 48
      · have hb : (((s[0]'i3).toNat : Int) == 48) = true := by
          subst hs
          have : t[0]'(by omega) = 48 := by rw [List.head?_eq_getElem?, List.getElem?_eq_getElem (by omega)] at h2; exact Option.some.inj h2
          show (((t[0]'(by omega)).toNat : Int) == 48) = true
          rw [this]; rfl
        have hx : (s.extract 1 s.size) = ⟨(t.drop 1).toArray⟩ := by
          apply ByteArray.ext
          apply Array.ext'
          rw [Lib.extract_data, hsz, hs]
          show (t.drop 1).take (t.length - 1) = t.drop 1
          rw [List.take_of_length_le (by simp)]
        have HX := Lib.hid hx; clear hx
        have hst := bare_step h1 h2 H.out.2.2.1
        have HS := Lib.hid (And.intro hst hsz); clear hst hsz hs h1 h2
        go_wp2_with fail
        go_roundg (gk - 1)
        case measure => have := H.out.1; have := HS.out.1.2.2; have := HS.out.2; omega
        case rel =>
          refine ⟨t.drop 1, _, rfl, HX.out, ?_, ?_, HS.out.1.2.1, ?_, ?_, rfl⟩
          · have := H.out.1; have := HS.out.1.2.2; omega
          · exact HS.out.1.1.trans H.out.2.1
          · intro e; have h3 := HS.out.1.2.2; rw [e] at h3; simp at h3; have := HS.out.2; omega
          · have := HS.out.1.2.2; omega
      · have hb : (((s[0]'i3).toNat : Int) == 48) = false := by
          subst hs
          rw [beq_eq_false_iff_ne]
          intro e
          apply h2
          rw [List.head?_eq_getElem?, List.getElem?_eq_getElem (by omega)]
          congr 1
          exact UInt8.toNat_inj.1 (show (t[0]'(by omega)).toNat = 48 by have : (((t[0]'(by omega)).toNat : Int)) = 48 := e; omega)
        have hdn := bare_done H.out.2.2.1 H.out.2.2.2 (fun _ => h2)
        have HD := Lib.hid (And.intro hdn hs); clear hdn hs h1 h2 hsz
        go_wp2_with fail
        go_ret
        exact ⟨ret_s (by rw [HD.out.2, HD.out.1, H.out.2.1]), rfl⟩
    · have hdn := bare_done H.out.2.2.1 H.out.2.2.2 (fun h => absurd h h1)
      have hsz : s.size = t.length := by rw [hs]; simp [ByteArray.size]
      have i1 : ¬ (1 : Int) < (s.size : Int) := by omega
      have i2 : ¬ 1 < s.size := by omega
      have HD := Lib.hid (And.intro hdn hs); clear hdn hs h1 hsz
      go_wp2_with fail
      go_ret
      exact ⟨ret_s (by rw [HD.out.2, HD.out.1, H.out.2.1]), rfl⟩

theorem column_add (a b c : Int) (w : World) (ha : 48 ≤ a ∧ a ≤ 57) (hb : 48 ≤ b ∧ b ≤ 57) (hc : 0 ≤ c ∧ c ≤ 1) :
    Calls Tryz.prog 212 #[.int .u8 a, .int .u8 b, .int .i64 c, .bool true] w fun e w' => e = .returned (.tuple #[.int .u8 (48 + cd (a - 48 + 1 * (b - 48 + c))), .int .i64 (cc (a - 48 + 1 * (b - 48 + c)))]) ∧ w = w' := by
  obtain ⟨a1, a2⟩ := ha
  obtain ⟨b1, b2⟩ := hb
  obtain ⟨c1, c2⟩ := hc
  by_cases h : 9 < a - 48 + (b - 48) + c
  · have e1 : 48 + cd (a - 48 + 1 * (b - 48 + c)) = 48 + (a - 48 + (b - 48) + c) - 10 := by unfold cd; rw [if_pos (by omega)]; omega
    have e2 : cc (a - 48 + 1 * (b - 48 + c)) = 1 := by unfold cc; rw [if_pos (by omega)]
    rw [e1, e2]
    clear e1 e2
    go_enter Tryz.func212, Tryz.ntmps212
    go_wp2
    go_ret2
    exact ⟨rfl, rfl⟩
  · have e1 : 48 + cd (a - 48 + 1 * (b - 48 + c)) = 48 + (a - 48 + (b - 48) + c) := by unfold cd; rw [if_neg (by omega), if_neg (by omega)]; omega
    have e2 : cc (a - 48 + 1 * (b - 48 + c)) = 0 := by unfold cc; rw [if_neg (by omega), if_neg (by omega)]
    rw [e1, e2]
    clear e1 e2
    have h2 : ¬ a - 48 + (b - 48) + c < 0 := by omega
    go_enter Tryz.func212, Tryz.ntmps212
    go_wp2
    go_ret2
    exact ⟨rfl, rfl⟩

theorem column_sub (a b c : Int) (w : World) (ha : 48 ≤ a ∧ a ≤ 57) (hb : 48 ≤ b ∧ b ≤ 57) (hc : 0 ≤ c ∧ c ≤ 1) :
    Calls Tryz.prog 212 #[.int .u8 a, .int .u8 b, .int .i64 c, .bool false] w fun e w' => e = .returned (.tuple #[.int .u8 (48 + cd (a - 48 + -1 * (b - 48 + c))), .int .i64 (cc (a - 48 + -1 * (b - 48 + c)))]) ∧ w = w' := by
  obtain ⟨a1, a2⟩ := ha
  obtain ⟨b1, b2⟩ := hb
  obtain ⟨c1, c2⟩ := hc
  have h9 : ¬ 9 < a - 48 - (b - 48) - c := by omega
  by_cases h : a - 48 - (b - 48) - c < 0
  · have e1 : 48 + cd (a - 48 + -1 * (b - 48 + c)) = 48 + (a - 48 - (b - 48) - c) + 10 := by unfold cd; rw [if_neg (by omega), if_pos (by omega)]; omega
    have e2 : cc (a - 48 + -1 * (b - 48 + c)) = 1 := by unfold cc; rw [if_neg (by omega), if_pos (by omega)]
    rw [e1, e2]
    clear e1 e2
    go_enter Tryz.func212, Tryz.ntmps212
    go_wp2
    go_ret2
    exact ⟨rfl, rfl⟩
  · have e1 : 48 + cd (a - 48 + -1 * (b - 48 + c)) = 48 + (a - 48 - (b - 48) - c) := by unfold cd; rw [if_neg (by omega), if_neg (by omega)]; omega
    have e2 : cc (a - 48 + -1 * (b - 48 + c)) = 0 := by unfold cc; rw [if_neg (by omega), if_neg (by omega)]
    rw [e1, e2]
    clear e1 e2
    go_enter Tryz.func212, Tryz.ntmps212
    go_wp2
    go_ret2
    exact ⟨rfl, rfl⟩

end Go.Proofs.YtgdlfjofefhdoaaGreatDoor
