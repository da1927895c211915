/- The reference's decimal texts, as on paper: bare, column, less, wide. The reference's texts of whole numbers: Of. The reference's decimal texts, as on paper: wide, paper. The reference's decimal texts, as on paper: product. -/
import Derived.Test.YtgdlfjofefhdoaaGreatDoorVecPl
import Derived.Test.YtgdlfjofefhdoaaGreatDoorDecA
import Derived.Laws.BytesArg
import Derived.Laws.CopyRow
import Derived.OwnWalk
import Derived.IntWalk
import Derived.Deep.RegionHeld3
import Derived.Test.YtgdlfjofefhdoaaGreatDoorTxtA
namespace Go.Proofs.YtgdlfjofefhdoaaGreatDoor
open Go.RowKit Go.Sort Go.Lib Mb

abbrev Tx (l : List UInt8) : Value := .string ⟨l.toArray⟩
abbrev Dd (u : Nat) : Value := Tx (decDigits u)

theorem ret_s {a b : ByteArray} (h : a = b) : Ending.returned (.string a) = .returned (.string b) := by rw [h]

/-- bytes as cells -/
def bc (l : List UInt8) : Array Value := (l.map fun b => Value.int .u8 (b.toNat : Int)).toArray
theorem bc_size (l : List UInt8) : (bc l).size = l.length := by simp [bc]
theorem bc_get {l : List UInt8} {i : Nat} (h : i < l.length) : (bc l)[i]? = some (.int .u8 (l[i].toNat : Int)) := by simp [bc, h]

theorem strOfNums_bytes (l : List UInt8) : strOfNums (l.map fun b => (b.toNat : Int)) = ⟨l.toArray⟩ := by
  unfold strOfNums
  congr 2
  rw [List.map_map]
  conv => rhs; rw [← List.map_id l]
  refine List.map_congr_left fun b _ => ?_
  show UInt8.ofNat ((b.toNat : Int).toNat) = b
  rw [Int.toNat_natCast]
  exact UInt8.ofNat_toNat

/-- string(b) of cells that hold bytes -/
theorem conv_row (w : World) (b len cap : Nat) (l : List UInt8) (hl : l.length = len) (hc : ∀ i (h : i < l.length), w.cell? ⟨b, i, none⟩ = some (.int .u8 (l[i].toNat : Int))) :
    (convert 177 9 (.slice (some ⟨b, 0, none⟩) len cap)).run Tryz.prog w = .ok (Tx l) w := by
  have h := run_convert_bytes_arg (P := Tryz.prog) w 177 5 Tryz.underlying177 Tryz.underlying5 b 0 len cap (l.map fun b => (b.toNat : Int)) (by simpa using hl) (fun i hi => by
    have hi' : i < l.length := by omega
    rw [Nat.zero_add, hc i hi']
    simp [List.getD, hi']) 9 Tryz.underlying9
  rw [h, strOfNums_bytes]

theorem conv_one (w : World) (b : UInt8) : (convert 177 9 (.slice (some ⟨w.heap.size, 0, none⟩) 1 1)).run Tryz.prog (w.alloc (.cells #[.int .u8 (b.toNat : Int)] 5)) = .ok (Tx [b]) (w.alloc (.cells #[.int .u8 (b.toNat : Int)] 5)) :=
  conv_row _ _ 1 1 [b] rfl (fun i hi => by
    have : i = 0 := by simpa using hi
    subst this
    exact cell_new _ _ _ _ _ rfl)

set_option maxHeartbeats 800000 in
theorem bare_calls (l : List UInt8) (w : World) (hd : Dig l) (hn : l ≠ []) (hl : l.length ≤ 1000000) :
    Calls Tryz.prog 184 #[Tx l] w fun e w' => e = .returned (Dd (dv l)) ∧ w = w' := by
  go_enter Tryz.func184, Tryz.ntmps184
  go_wp2_with fail
  go_loopg [0] l.length (fun g v wr => ∃ (t : List UInt8) (s : ByteArray), v = .string s ∧ s = ⟨t.toArray⟩ ∧ t.length = g ∧ dv t = dv l ∧ Dig t ∧ t ≠ [] ∧ t.length ≤ l.length ∧ w = wr)
  case atStart => exact ⟨l, _, rfl, rfl, rfl, rfl, hd, hn, Nat.le_refl _, rfl⟩
  case round =>
    obtain ⟨t, s, rfl, hs, hg, hv, hdt, hnt, hle, rfl⟩ := hrel
    have H := Lib.hid (And.intro hg (And.intro hv (And.intro hdt hnt))); clear hg hv hdt hnt hd hn
    by_cases h1 : 1 < t.length
    · have hsz : s.size = t.length := by rw [hs]; simp [ByteArray.size]
      have i1 : (1 : Int) < (s.size : Int) := by omega
      have i2 : 1 < s.size := by omega
      have i3 : 0 < s.size := by omega
      have i4 : (s.size : Int) ≤ 1000000 := by omega
      by_cases h2 : t.head? = some 48
      · have hb : (((s[0]'i3).toNat : Int) == 48) = true := by
          subst hs
          have : t[0]'(by omega) = 48 := by rw [List.head?_eq_getElem?, List.getElem?_eq_getElem (by omega)] at h2; exact Option.some.inj h2
          show (((t[0]'(by omega)).toNat : Int) == 48) = true
          rw [this]; rfl
        have hx : (s.extract 1 s.size) = ⟨(t.drop 1).toArray⟩ := by
          apply ByteArray.ext
          apply Array.ext'
          rw [Lib.extract_data, hsz, hs]
          show (t.drop 1).take (t.length - 1) = t.drop 1
          rw [List.take_of_length_le (by simp)]
        have HX := Lib.hid hx; clear hx
        have hst := bare_step h1 h2 H.out.2.2.1
        have HS := Lib.hid (And.intro hst hsz); clear hst hsz hs h1 h2
        go_wp2_with fail
        go_roundg (gk - 1)
        case measure => have := H.out.1; have := HS.out.1.2.2; have := HS.out.2; omega
        case rel =>
          refine ⟨t.drop 1, _, rfl, HX.out, ?_, ?_, HS.out.1.2.1, ?_, ?_, rfl⟩
          · have := H.out.1; have := HS.out.1.2.2; omega
          · exact HS.out.1.1.trans H.out.2.1
          · intro e; have h3 := HS.out.1.2.2; rw [e] at h3; simp at h3; have := HS.out.2; omega
          · have := HS.out.1.2.2; omega
      · have hb : (((s[0]'i3).toNat : Int) == 48) = false := by
          subst hs
          rw [beq_eq_false_iff_ne]
          intro e
          apply h2
          rw [List.head?_eq_getElem?, List.getElem?_eq_getElem (by omega)]
          congr 1
          exact UInt8.toNat_inj.1 (show (t[0]'(by omega)).toNat = 48 by have : (((t[0]'(by omega)).toNat : Int)) = 48 := e; omega)
        have hdn := bare_done H.out.2.2.1 H.out.2.2.2 (fun _ => h2)
        have HD := Lib.hid (And.intro hdn hs); clear hdn hs h1 h2 hsz
        go_wp2_with fail
        go_ret
        exact ⟨ret_s (by rw [HD.out.2, HD.out.1, H.out.2.1]), rfl⟩
    · have hdn := bare_done H.out.2.2.1 H.out.2.2.2 (fun h => absurd h h1)
      have hsz : s.size = t.length := by rw [hs]; simp [ByteArray.size]
      have i1 : ¬ (1 : Int) < (s.size : Int) := by omega
      have i2 : ¬ 1 < s.size := by omega
      have HD := Lib.hid (And.intro hdn hs); clear hdn hs h1 hsz
      go_wp2_with fail
      go_ret
      exact ⟨ret_s (by rw [HD.out.2, HD.out.1, H.out.2.1]), rfl⟩

theorem column_add (a b c : Int) (w : World) (ha : 48 ≤ a ∧ a ≤ 57) (hb : 48 ≤ b ∧ b ≤ 57) (hc : 0 ≤ c ∧ c ≤ 1) :
    Calls Tryz.prog 212 #[.int .u8 a, .int .u8 b, .int .i64 c, .bool true] w fun e w' => e = .returned (.tuple #[.int .u8 (48 + cd (a - 48 + 1 * (b - 48 + c))), .int .i64 (cc (a - 48 + 1 * (b - 48 + c)))]) ∧ w = w' := by
  obtain ⟨a1, a2⟩ := ha
  obtain ⟨b1, b2⟩ := hb
  obtain ⟨c1, c2⟩ := hc
  by_cases h : 9 < a - 48 + (b - 48) + c
  · have e1 : 48 + cd (a - 48 + 1 * (b - 48 + c)) = 48 + (a - 48 + (b - 48) + c) - 10 := by unfold cd; rw [if_pos (by omega)]; omega
    have e2 : cc (a - 48 + 1 * (b - 48 + c)) = 1 := by unfold cc; rw [if_pos (by omega)]
    rw [e1, e2]
    clear e1 e2
    go_enter Tryz.func212, Tryz.ntmps212
    go_wp2
    go_ret2
    exact ⟨rfl, rfl⟩
  · have e1 : 48 + cd (a - 48 + 1 * (b - 48 + c)) = 48 + (a - 48 + (b - 48) + c) := by unfold cd; rw [if_neg (by omega), if_neg (by omega)]; omega
    have e2 : cc (a - 48 + 1 * (b - 48 + c)) = 0 := by unfold cc; rw [if_neg (by omega), if_neg (by omega)]
    rw [e1, e2]
    clear e1 e2
    have h2 : ¬ a - 48 + (b - 48) + c < 0 := by omega
    go_enter Tryz.func212, Tryz.ntmps212
    go_wp2
    go_ret2
    exact ⟨rfl, rfl⟩

theorem column_sub (a b c : Int) (w : World) (ha : 48 ≤ a ∧ a ≤ 57) (hb : 48 ≤ b ∧ b ≤ 57) (hc : 0 ≤ c ∧ c ≤ 1) :
    Calls Tryz.prog 212 #[.int .u8 a, .int .u8 b, .int .i64 c, .bool false] w fun e w' => e = .returned (.tuple #[.int .u8 (48 + cd (a - 48 + -1 * (b - 48 + c))), .int .i64 (cc (a - 48 + -1 * (b - 48 + c)))]) ∧ w = w' := by
  obtain ⟨a1, a2⟩ := ha
  obtain ⟨b1, b2⟩ := hb
  obtain ⟨c1, c2⟩ := hc
  have h9 : ¬ 9 < a - 48 - (b - 48) - c := by omega
  by_cases h : a - 48 - (b - 48) - c < 0
  · have e1 : 48 + cd (a - 48 + -1 * (b - 48 + c)) = 48 + (a - 48 - (b - 48) - c) + 10 := by unfold cd; rw [if_neg (by omega), if_pos (by omega)]; omega
    have e2 : cc (a - 48 + -1 * (b - 48 + c)) = 1 := by unfold cc; rw [if_neg (by omega), if_pos (by omega)]
    rw [e1, e2]
    clear e1 e2
    go_enter Tryz.func212, Tryz.ntmps212
    go_wp2
    go_ret2
    exact ⟨rfl, rfl⟩
  · have e1 : 48 + cd (a - 48 + -1 * (b - 48 + c)) = 48 + (a - 48 - (b - 48) - c) := by unfold cd; rw [if_neg (by omega), if_neg (by omega)]; omega
    have e2 : cc (a - 48 + -1 * (b - 48 + c)) = 0 := by unfold cc; rw [if_neg (by omega), if_neg (by omega)]
    rw [e1, e2]
    clear e1 e2
    go_enter Tryz.func212, Tryz.ntmps212
    go_wp2
    go_ret2
    exact ⟨rfl, rfl⟩

end Go.Proofs.YtgdlfjofefhdoaaGreatDoor

namespace Go.Proofs.YtgdlfjofefhdoaaGreatDoor
open Go.RowKit Go.Sort Go.Lib Mb

theorem conv_one' (w : World) (x : Int) (b : UInt8) (h : (b.toNat : Int) = x) : (convert 177 9 (.slice (some ⟨w.heap.size, 0, none⟩) 1 1)).run Tryz.prog (w.alloc (.cells #[.int .u8 x] 5)) = .ok (.string ⟨#[b]⟩) (w.alloc (.cells #[.int .u8 x] 5)) := by
  subst h; exact conv_one w b

theorem dig_b {d : Nat} (h : d < 10) : ((UInt8.ofNat (48 + d)).toNat : Int) = 48 + (d : Int) := by rw [toNat_digit h]; simp

theorem dec_snoc {g : Nat} (h : 9 < g) : decDigits g = decDigits (g / 10) ++ [UInt8.ofNat (48 + g % 10)] := by
  rw [decDigits, dif_neg (by omega)]
theorem dec_one {g : Nat} (h : ¬ 9 < g) : decDigits g = [UInt8.ofNat (48 + g)] := by
  rw [decDigits, dif_pos (by omega)]
theorem cat_bytes (b : UInt8) (s : List UInt8) : (⟨#[b]⟩ : ByteArray) ++ ⟨s.toArray⟩ = ⟨(b :: s).toArray⟩ := by
  apply ByteArray.ext
  rw [ByteArray.data_append]
  apply Array.ext'
  simp

set_option maxRecDepth 100000 in
set_option maxHeartbeats 1600000 in
theorem rof_nonneg (n : Nat) (w : World) (h : (n : Int) ≤ 9223372036854775807) :
    Calls Tryz.prog 83 #[.int .i64 n] w fun e w' => e = .returned (Dd n) ∧ Below w.heap.size w w' := by
  have i1 : IntKind.i64.wrap (-(n : Int)) = -(n : Int) := IntWalk.i64_in _ (by omega)
  have i0 : ((n : Int) == -(n : Int) && (n : Int) != 0) = false := by
    by_cases h0 : (n : Int) = 0
    · rw [h0]; rfl
    · rw [show ((n : Int) == -(n : Int)) = false by rw [beq_eq_false_iff_ne]; omega]; rfl
  have i2 : ¬ (n : Int) < 0 := by omega
  obtain ⟨bq, hbq⟩ : ∃ bq, ((n : Int) == -(n : Int)) = bq := ⟨_, rfl⟩
  have i3 : bq = true → (n : Int) = 0 := by intro e; rw [e] at hbq; have := eq_of_beq hbq; omega
  have key : ∀ (A : Act → World → Prop), True := fun _ => trivial
  cases bq with
  | true =>
    obtain rfl : n = 0 := by have := i3 rfl; omega
    clear i3 key
    go_enter Tryz.func83, Tryz.ntmps83
    have kc := fun w => conv_one' w 48 48 rfl
    go_wp2_with fail
    refine wp_loop_rounds 1 ?_
    rw [rounds_succ]
    go_wp2_with fail
    go_ret
    exact ⟨ret_s (by rw [dec_one (by omega)]; exact cat_bytes 48 []), alloc_below _ _⟩
  | false =>
    clear i3 key i0
    go_enter Tryz.func83, Tryz.ntmps83
    go_wp2_with fail
    have HN := Lib.hid ((decDigits_len_le (u := n) (k := 19) (by omega)).2 (by omega))
    go_loopg [0, 3] n (fun g v t wr => ∃ (s : List UInt8) (sb : ByteArray), v = .int .i64 g ∧ t = .string sb ∧ sb = ⟨s.toArray⟩ ∧ g ≤ n ∧ decDigits n = decDigits g ++ s ∧ Below w.heap.size w wr)
    case atStart => exact ⟨[], _, rfl, rfl, rfl, Nat.le_refl _, by simp, Below.refl _ _⟩
    case round =>
      obtain ⟨s, sb, rfl, rfl, hsb, hgn, hs, hbel⟩ := hrel
      have j5 : sb.size ≤ 19 := by
        have h1 := HN.out
        rw [hs, List.length_append] at h1
        have h2 : sb.size = s.length := by rw [hsb]; simp [ByteArray.size]
        omega
      have H := Lib.hid (And.intro hs (And.intro hbel hsb)); clear hs hbel hsb
      by_cases hk : 9 < gk
      · have j1 : (9 : Int) < (gk : Int) := by omega
        have j2 : ((gk : Int)).tmod 10 = (gk : Int) % 10 := by rw [Int.tmod_eq_emod_of_nonneg (by omega)]
        have j4 : ((gk : Int)).tdiv 10 = (gk : Int) / 10 := by rw [Int.tdiv_eq_ediv_of_nonneg (by omega)]
        obtain ⟨b, hb⟩ : ∃ b : UInt8, b = UInt8.ofNat (48 + gk % 10) := ⟨_, rfl⟩
        have hbv : (b.toNat : Int) = 48 + (gk : Int) % 10 := by rw [hb, dig_b (by omega)]; simp
        have kc := fun w => conv_one' w (48 + (gk : Int) % 10) b hbv
        have HD := Lib.hid (And.intro (dec_snoc hk) hb)
        clear hk hb hbv
        go_wp2_with fail
        go_roundg (gk / 10)
        case measure => omega
        case rel =>
          refine ⟨b :: s, _, by go_num, rfl, by rw [H.out.2.2]; exact cat_bytes b s, by omega, ?_, below_trans H.out.2.1 (alloc_below _ _)⟩
          rw [H.out.1, HD.out.1, ← HD.out.2, List.append_assoc]; rfl
      · have j1 : ¬ (9 : Int) < (gk : Int) := by omega
        have j6 : (gk : Int) < 10 := by omega
        obtain ⟨b, hb⟩ : ∃ b : UInt8, b = UInt8.ofNat (48 + gk) := ⟨_, rfl⟩
        have hbv : (b.toNat : Int) = 48 + (gk : Int) := by rw [hb, dig_b (by omega)]
        have kc := fun w => conv_one' w (48 + (gk : Int)) b hbv
        have HD := Lib.hid (And.intro (dec_one hk) hb)
        clear hk hb hbv
        go_wp2_with fail
        go_ret
        refine ⟨ret_s ?_, below_trans H.out.2.1 (alloc_below _ _)⟩
        rw [H.out.2.2, cat_bytes, H.out.1, HD.out.1, ← HD.out.2]; rfl

theorem S_nat {n : Int} (h : 0 ≤ n) : S n = Dd n.toNat := by
  show Value.string ⟨(itoa n).toArray⟩ = _
  rw [Mb.itoa_nonneg h, show n.natAbs = n.toNat by omega]

theorem rof_pos (n : Int) (w : World) (h0 : 0 ≤ n) (h : n ≤ 9223372036854775807) :
    Calls Tryz.prog 83 #[.int .i64 n] w fun e w' => e = .returned (S n) ∧ Below w.heap.size w w' := by
  rw [S_nat h0]
  obtain ⟨m, rfl⟩ := Int.eq_ofNat_of_zero_le h0
  exact rof_nonneg m w h

theorem rwhole_calls (n : Int) (w : World) (h0 : 0 ≤ n) (h : n ≤ 9223372036854775807) :
    Calls Tryz.prog 29 #[.int .i64 n] w fun e w' => e = .returned (S n) ∧ Below w.heap.size w w' := by
  have H := rof_pos n w h0 h
  clear h0 h
  go_enter Tryz.func29, Tryz.ntmps29
  go_wp2_with fail
  refine H.mono ?_
  rintro e w1 ⟨rfl, hb1⟩
  clear H
  go_wp2_with fail
  go_ret
  exact ⟨rfl, hb1⟩

end Go.Proofs.YtgdlfjofefhdoaaGreatDoor

namespace Go.Proofs.YtgdlfjofefhdoaaGreatDoor
open Go.RowKit Go.Sort Go.Lib Mb

section
variable {P : Program}
theorem run_copy_str (w : World) (dT sT ty elem : TypeId) (g o dLen dCap : Nat) (s : ByteArray) (cur : Array Value) (t : TypeId)
    (hu : P.underlying dT = some (.slice elem)) (hs : (P.info? elem).map (·.size) = some 1) (hg : w.heap[g]? = some (.cells cur t (0, 0))) (hn : s.size ≤ dLen) (hfit : o + s.size ≤ cur.size) :
    (Builtin.copy_ #[dT, sT] ty #[.slice (some ⟨g, o, none⟩) dLen dCap, .string s]).run P w = .ok (goInt s.size) (w.setRow g (cur.toList.take o ++ (bc s.data.toList).toList ++ cur.toList.drop (o + s.size)).toArray) := by
  have hlen : (bc s.data.toList).toList.length = s.size := by rw [Array.length_toList, bc_size, Array.length_toList]; rfl
  have hst := run_storeCells_at P g o t (bc s.data.toList).toList 0 cur w hg (by rw [hlen]; simpa using hfit) (by intro v hv; simp [bc] at hv; obtain ⟨b, _, rfl⟩ := hv; rfl)
  rw [hlen] at hst
  have hmin : Nat.min s.size dLen = s.size := Nat.min_eq_left hn
  cases hq : P.info? elem with
  | none => simp [hq] at hs
  | some i =>
    have hmin' : min s.size dLen = s.size := hmin
    have e2 : List.take s.size (List.map (fun b => Value.int .u8 (b.toNat : Int)) s.data.toList) = (bc s.data.toList).toList := by
      rw [List.take_of_length_le (by rw [List.length_map, Array.length_toList]; exact Nat.le_refl _)]; rfl
    simp [Builtin.copy_, run_underlying hu, Builtin.lenOf, Builtin.firstCells, sizeOf, typeInfo, hq, hmin']
    rw [e2, hst]
    simp

theorem wpList_copy_str {w : World} {ops : Array Oper} {rest : List Oper} {o : Oper} {a : Act} {Q : Exit → Act → World → Prop} (hgd : o.guard = none) (d s : Operand) (dT sT : TypeId)
    (ho : o.op = .call { callee := .builtin .copy, args := #[d, s], argTypes := #[dT, sT] }) (elem : TypeId) (hu : P.underlying dT = some (.slice elem)) (hsz : (P.info? elem).map (·.size) = some 1)
    (g off dLen dCap : Nat) (b : ByteArray) (hd : a.eval d = .slice (some ⟨g, off, none⟩) dLen dCap) (hs : a.eval s = .string b)
    (cur : Array Value) (t : TypeId) (hg : Blk w g cur t) (hn : b.size ≤ dLen) (hfit : off + b.size ≤ cur.size)
    (h : ∀ w', Blk w' g (cur.toList.take off ++ (bc b.data.toList).toList ++ cur.toList.drop (off + b.size)).toArray t → (∀ B, B ≤ g → Below B w w') → wpList P ops Q rest (a.put o.dst (goInt b.size)) w') : wpList P ops Q (o :: rest) a w := by
  refine wpList_plain hgd fun K hK => ?_
  have hrun := run_copy_str (P := P) w dT sT o.type elem g off dLen dCap b cur t hu hsz hg hn hfit
  unfold Oper.wp
  simp [execOp, ho, resolve, invoke, builtin, hd, hs, hrun, Result.andThen]
  refine hK _ _ ?_
  have := h (w.setRow g (cur.toList.take off ++ (bc b.data.toList).toList ++ cur.toList.drop (off + b.size)).toArray) (setRow_heap w g _ _ t _ hg) (fun B hB => ⟨rfl, rfl, rfl, by simp [World.setRow], fun k hk => setRow_other w g k _ (by omega)⟩)
  simpa using this
end

theorem infoByte1 : (Tryz.prog.info? 5).map (fun i => (i.zero, i.size, i.bytes)) = some (some (.int .u8 0), 1, 1) := by kernel_rfl
theorem sizeByte : (Tryz.prog.info? 5).map (·.size) = some 1 := by kernel_rfl

/-- a row that was made is a block of its own -/
theorem blk_made {w' : World} {base blk n : Nat} {e : TypeId} {xs : List Value} (h : w'.ownsRow base e 1 (.slice (some ⟨blk, 0, none⟩) n n) n xs) : Blk w' blk xs.toArray e ∧ xs.length = n := by
  obtain ⟨hl, ⟨h1, _⟩ | ⟨g, cap, cur, hv, _, hc, hn, _, hs, ht⟩⟩ := h
  · cases h1
  · injection hv with e1 e2 e3
    injection e1 with e1
    injection e1 with e1 _ _
    subst e1
    subst e3
    refine ⟨?_, by omega⟩
    have : cur = xs.toArray := by
      rw [← ht, List.take_of_length_le (by simp; omega)]
    unfold Blk; rw [← this]; exact hc

theorem take_set_snoc (cur : Array Value) (i : Nat) (v : Value) (hi : i < cur.size) : (cur.setIfInBounds i v).toList.take (i + 1) = cur.toList.take i ++ [v] := by
  rw [List.take_succ_eq_append_getElem (by simpa using hi)]
  simp
  apply List.ext_getElem (by simp)
  intro j h1 h2
  simp [List.getElem_take, List.getElem_set]
  intro e
  simp at h1; omega

set_option maxRecDepth 100000 in
set_option maxHeartbeats 1600000 in
theorem wide_calls (l : List UInt8) (n : Nat) (w : World) (hl : l ≠ []) (hn : l.length ≤ n) (hn2 : n ≤ 1000000) :
    Calls Tryz.prog 211 #[Tx l, .int .i64 n] w fun e w' => e = .returned (Tx (List.replicate (n - l.length) 48 ++ l)) ∧ Below w.heap.size w w' := by
  obtain ⟨i0, hi0, hz0, hz1, hz2⟩ := info_parts infoByte1
  obtain ⟨s, hs⟩ : ∃ s : ByteArray, s = ⟨l.toArray⟩ := ⟨_, rfl⟩
  have hsz : s.size = l.length := by rw [hs]; simp [ByteArray.size]
  have hpos : 0 < l.length := List.length_pos_iff.2 hl
  show Calls _ _ #[.string ⟨l.toArray⟩, .int .i64 n] w _
  rw [← hs]
  have z1 : (s.size : Int) ≤ (n : Int) := by omega
  have z2 : 0 < s.size := by omega
  have z3 : (n : Int) ≤ 1000000 := by omega
  have z4 : (0 : Int) ≤ (n : Int) := by omega
  have HS := Lib.hid (And.intro hs hsz); clear hs hsz hpos
  go_enter Tryz.func211, Tryz.ntmps211
  go_wp2_with (at_make; refine wpList_make_full _ rfl (.tmp 7) (.tmp 7) 177 rfl w.heap.size 5 i0 (.int .u8 0) 1 Tryz.underlying177 hi0 hz0 hz1 .i64 .i64 _ _ n rfl rfl rfl rfl (by rw [hz2]; omega) (by unfold maxLen; omega) (Nat.le_refl _) ?_; intro w2 hown hgrow)
  obtain ⟨hblk, hlen⟩ := blk_made hown
  have hbw : Below w.heap.size w w2 := (Below.refl _ _).grown hgrow (Nat.le_refl _) (fun k e => by cases e)
  obtain ⟨blk, hblk'⟩ : ∃ blk, blk = w.heap.size := ⟨_, rfl⟩
  rw [← hblk'] at hblk ⊢
  have HB := Lib.hid (And.intro hblk (And.intro hblk' (And.intro hlen hbw)))
  clear hblk hblk' hlen hbw hown hgrow
  go_loopg [6] n (fun g v wr => ∃ (i : Nat) (cur : Array Value), i + g = n ∧ v = .int .i64 i ∧ Blk wr blk cur 5 ∧ cur.size = n ∧ cur.toList.take i = List.replicate i (.int .u8 48) ∧ Below w.heap.size w wr)
  case atStart => exact ⟨0, _, Nat.zero_add _, rfl, HB.out.1, by have := HB.out.2.2.1; simpa using this, by simp, HB.out.2.2.2⟩
  case round =>
    obtain ⟨i, cur, hi, rfl, hb, hcs, htk, hbel⟩ := hrel
    have H := Lib.hid (And.intro hb (And.intro hcs (And.intro htk hbel)))
    by_cases hlt : i < n
    · have c0 := hb.c i (cur[i]'(by omega)) (Array.getElem?_eq_getElem _)
      have f0 := hb.free i
      obtain ⟨u, hu⟩ : ∃ u, cur[i]'(by omega) = u := ⟨_, rfl⟩
      rw [hu] at c0
      clear hu hb hcs htk hbel
      have i1 : (i : Int) < n := by omega
      have i2 : (0 : Int) ≤ (i : Int) := by omega
      go_wp2_with fail
      go_roundg (n - i - 1)
      case measure => omega
      case rel =>
        refine ⟨i + 1, _, by omega, by go_num, H.out.1.set i _, by rw [Array.size_setIfInBounds]; exact H.out.2.1, ?_, H.out.2.2.2.setCell (p := ⟨blk, i, none⟩) (by rw [HB.out.2.1]; exact Nat.le_refl _) _⟩
        rw [take_set_snoc cur i _ (by rw [H.out.2.1]; omega), H.out.2.2.1, List.replicate_succ']
    · have hin : i = n := by omega
      subst hin
      have e1 : cur.toList = List.replicate i (.int .u8 48) := by rw [← htk, List.take_of_length_le (by simp; omega)]
      have HC := Lib.hid e1
      clear hb hcs htk hbel e1 hlt
      obtain ⟨q, hq⟩ : ∃ q, q = i - s.size := ⟨_, rfl⟩
      have hk1 : (q : Int) ≤ (i : Int) := by omega
      have hk2 : (0 : Int) ≤ (q : Int) := by omega
      have hk3 : ¬ i = q := by omega
      have hsub : IntKind.i64.wrap ((i : Int) - (s.size : Int)) = (q : Int) := by rw [IntWalk.i64_in _ (by omega)]; omega
      have HQ := Lib.hid hq; clear hq
      go_wp2_with (refine wpList_copy_str rfl (.tmp 22) (.tmp 23) 177 9 rfl 5 Tryz.underlying177 sizeByte blk _ _ _ s rfl rfl cur 5 H.out.1 ?h1 ?h2 ?_)
      case h1 => have := HQ.out; omega
      case h2 => have := HQ.out; have := H.out.2.1; omega
      intro w3 hb3 hbel3
      have hcells : (cur.toList.take q ++ ((bc s.data.toList).toList ++ cur.toList.drop (q + s.size))).toArray = bc (List.replicate q 48 ++ l) := by
        have hq := HQ.out
        have hs := HS.out
        have e2 : cur.toList.drop (q + s.size) = [] := List.drop_of_length_le (by rw [Array.length_toList, H.out.2.1]; omega)
        have e3 : cur.toList.take q = List.replicate q (.int .u8 48) := by rw [HC.out, List.take_replicate]; congr 1; omega
        have e4 : s.data.toList = l := by rw [hs.1]
        rw [e2, e3, e4, List.append_nil]
        apply Array.ext'
        simp [bc]
      rw [hcells] at hb3
      have hlen2 : (List.replicate q (48 : UInt8) ++ l).length = i := by
        have hq := HQ.out; have hs := HS.out
        rw [List.length_append, List.length_replicate]; omega
      have hcv := conv_row w3 blk i i (List.replicate q 48 ++ l) hlen2 (fun j hj => hb3.c j _ (bc_get hj))
      have hb4 : Below w.heap.size w w3 := H.out.2.2.2.trans (hbel3 _ (by rw [HB.out.2.1]; exact Nat.le_refl _))
      have hqe : q = i - l.length := by have hq := HQ.out; have hs := HS.out; omega
      have HF := Lib.hid (And.intro hb4 hqe)
      clear hcells hb3 hlen2 hb4 hqe hbel3 hsub
      go_wp2_with fail
      go_ret
      refine ⟨?_, HF.out.1⟩
      show Ending.returned (Tx (List.replicate q 48 ++ l)) = _
      rw [HF.out.2]

theorem column_any (g a b c : Int) (add : Bool) (w : World) (hg : g = if add then 1 else -1) (ha : 48 ≤ a ∧ a ≤ 57) (hb : 48 ≤ b ∧ b ≤ 57) (hc : 0 ≤ c ∧ c ≤ 1) :
    Calls Tryz.prog 212 #[.int .u8 a, .int .u8 b, .int .i64 c, .bool add] w fun e w' => e = .returned (.tuple #[.int .u8 (48 + cd (a - 48 + g * (b - 48 + c))), .int .i64 (cc (a - 48 + g * (b - 48 + c)))]) ∧ w = w' := by
  cases add with
  | true => subst hg; exact column_add a b c w ha hb hc
  | false => subst hg; exact column_sub a b c w ha hb hc

theorem drop_set_cons (cur : Array Value) (i : Nat) (v : Value) (hi : i < cur.size) : (cur.setIfInBounds i v).toList.drop i = v :: cur.toList.drop (i + 1) := by
  rw [List.drop_eq_getElem_cons (by simpa using hi)]
  simp
  apply List.ext_getElem (by simp)
  intro j h1 h2
  simp [List.getElem_drop, List.getElem_set]
  intro e
  omega

theorem byte_sub {b : UInt8} (h : 48 ≤ b.toNat ∧ b.toNat ≤ 57) : (b.toNat : Int) - 48 = ((b.toNat - 48 : Nat) : Int) := by omega

set_option maxRecDepth 100000 in
set_option maxHeartbeats 3200000 in
theorem paper_calls (u v : Nat) (add : Bool) (g : Int) (w : World) (hg : g = if add then 1 else -1) (hle : g = -1 → v ≤ u) (lu : (decDigits u).length ≤ 2000) (lv : (decDigits v).length ≤ 2000) :
    Calls Tryz.prog 185 #[Dd u, Dd v, .bool add] w fun e w' => e = .returned (Dd ((u : Int) + g * v).toNat) ∧ Below w.heap.size w w' := by
  obtain ⟨i0, hi0, hz0, hz1, hz2⟩ := info_parts infoByte1
  obtain ⟨la, hla⟩ : ∃ la, la = decDigits u := ⟨_, rfl⟩
  obtain ⟨lb, hlb⟩ : ∃ lb, lb = decDigits v := ⟨_, rfl⟩
  obtain ⟨n, hn⟩ : ∃ n, n = max la.length lb.length + 1 := ⟨_, rfl⟩
  have H1 := fun w => wide_calls la n w (by rw [hla]; exact decDigits_ne _) (by omega) (by rw [← hla] at lu; rw [← hlb] at lv; omega)
  have H2 := fun w => wide_calls lb n w (by rw [hlb]; exact decDigits_ne _) (by omega) (by rw [← hla] at lu; rw [← hlb] at lv; omega)
  obtain ⟨A, hA⟩ : ∃ A, A = List.replicate (n - la.length) 48 ++ la := ⟨_, rfl⟩
  obtain ⟨C, hC⟩ : ∃ C, C = List.replicate (n - lb.length) 48 ++ lb := ⟨_, rfl⟩
  rw [← hA] at H1
  rw [← hC] at H2
  have hAn : A.length = n := by rw [hA, List.length_append, List.length_replicate]; omega
  have hCn : C.length = n := by rw [hC, List.length_append, List.length_replicate]; omega
  have hAd : Dig A := by rw [hA, hla]; exact dig_zeros _ (dig_decDigits _)
  have hCd : Dig C := by rw [hC, hlb]; exact dig_zeros _ (dig_decDigits _)
  have hAv : dv A = dv la := by rw [hA, dv_zeros]
  have hCv : dv C = dv lb := by rw [hC, dv_zeros]
  obtain ⟨sA, hsA⟩ : ∃ s : ByteArray, s = ⟨A.toArray⟩ := ⟨_, rfl⟩
  obtain ⟨sC, hsC⟩ : ∃ s : ByteArray, s = ⟨C.toArray⟩ := ⟨_, rfl⟩
  obtain ⟨su, hsu⟩ : ∃ s : ByteArray, s = ⟨la.toArray⟩ := ⟨_, rfl⟩
  obtain ⟨sv', hsv⟩ : ∃ s : ByteArray, s = ⟨lb.toArray⟩ := ⟨_, rfl⟩
  have zA : sA.size = n := by rw [hsA, ← hAn]; simp [ByteArray.size]
  have zC : sC.size = n := by rw [hsC, ← hCn]; simp [ByteArray.size]
  have zu : su.size = la.length := by rw [hsu]; simp [ByteArray.size]
  have zv : sv'.size = lb.length := by rw [hsv]; simp [ByteArray.size]
  have H1' : ∀ w, Calls Tryz.prog 211 #[.string su, .int .i64 n] w fun e w' => e = .returned (.string sA) ∧ Below w.heap.size w w' := by rw [hsu, hsA]; exact H1
  have H2' : ∀ w, Calls Tryz.prog 211 #[.string sv', .int .i64 n] w fun e w' => e = .returned (.string sC) ∧ Below w.heap.size w w' := by rw [hsv, hsC]; exact H2
  clear H1 H2
  rw [← hla] at lu
  rw [← hlb] at lv
  have hmx : max (su.size : Int) (sv'.size : Int) + 1 = (n : Int) := by rw [hn]; omega
  have hn1 : (n : Int) ≤ 2001 := by omega
  have hn0 : 0 < n := by omega
  show Calls _ _ #[.string ⟨(decDigits u).toArray⟩, .string ⟨(decDigits v).toArray⟩, .bool add] w _
  rw [← hla, ← hlb, ← hsu, ← hsv]
  have HC := Lib.hid (And.intro H1' H2')
  have HD := Lib.hid (And.intro hAn (And.intro hCn (And.intro hAd (And.intro hCd (And.intro hAv hCv)))))
  have HE := Lib.hid (And.intro hg (And.intro hle (And.intro hla (And.intro hlb hn))))
  have HG := Lib.hid (And.intro hsA hsC)
  have HZ := Lib.hid (And.intro zA zC)
  have zA' : sA.size ≤ 2001 := by omega
  clear H1' H2' hAn hCn hAd hCd hAv hCv hg hle hla hlb hn zA zC zu zv hA hC hsA hsC hsu hsv lu lv
  go_enter Tryz.func185, Tryz.ntmps185
  go_wp2_with fail
  refine (HC.out.1 _).mono ?_
  rintro e w1 ⟨rfl, hb1⟩
  go_wp2_with fail
  refine (HC.out.2 _).mono ?_
  rintro e w2 ⟨rfl, hb2⟩
  have hb0 := Lib.hid (below_trans hb1 hb2)
  clear hb1 hb2 HC
  go_wp2_with (at_make; refine wpList_make_full _ rfl (.tmp 23) (.tmp 23) 177 rfl w2.heap.size 5 i0 (.int .u8 0) 1 Tryz.underlying177 hi0 hz0 hz1 .i64 .i64 _ _ n rfl rfl rfl rfl (by rw [hz2]; omega) (by unfold maxLen; omega) (Nat.le_refl _) ?_; intro w3 hown hgrow)
  obtain ⟨hblk, hlen⟩ := blk_made hown
  have hbw : Below w2.heap.size w2 w3 := (Below.refl _ _).grown hgrow (Nat.le_refl _) (fun k e => by cases e)
  obtain ⟨blk, hblk'⟩ : ∃ blk, blk = w2.heap.size := ⟨_, rfl⟩
  rw [← hblk'] at hblk ⊢
  have hB0 : Below w.heap.size w w3 ∧ w.heap.size ≤ blk := ⟨below_trans hb0.out hbw, by rw [hblk']; exact hb0.out.size⟩
  have HB := Lib.hid (And.intro hblk (And.intro hlen hB0))
  clear hblk hblk' hlen hbw hown hgrow hB0 hb0
  have hs1 : IntKind.i64.wrap ((n : Int) - 1) = (n : Int) - 1 := IntWalk.i64_in _ (by omega)
  go_loopg [9, 10] n (fun k c i wr => ∃ (cv iv : Int) (t : List UInt8) (cur : Array Value), c = .int .i64 cv ∧ i = .int .i64 iv ∧ iv + 1 = k ∧ k ≤ n ∧ Pap A C g k cv t ∧ Blk wr blk cur 5 ∧ cur.size = n ∧ cur.toList.drop k = (bc t).toList ∧ Below w.heap.size w wr)
  case atStart =>
    refine ⟨0, (n : Int) - 1, [], _, rfl, rfl, by omega, Nat.le_refl _, by have := Pap.start A C (by rw [HD.out.1, HD.out.2.1]) g; rwa [HD.out.1] at this, HB.out.1, by have := HB.out.2.1; simpa using this, ?_, HB.out.2.2.1⟩
    rw [List.drop_of_length_le (by have := HB.out.2.1; simp at this ⊢; omega)]; rfl
  case round =>
    obtain ⟨cv, iv, t, cur, rfl, rfl, hik, hkn, hP, hbk, hcs, hdr, hbel⟩ := hrel
    by_cases hlt : 0 ≤ iv
    · obtain ⟨j, rfl⟩ := Int.eq_ofNat_of_zero_le hlt
      obtain rfl : gk = j + 1 := by omega
      have hcb : 0 ≤ cv ∧ cv ≤ 1 := by rcases hP.cb with h | h <;> omega
      have hjn : j < n := by omega
      have hjA : j < sA.size := by rw [HZ.out.1]; exact hjn
      have hjC : j < sC.size := by rw [HZ.out.2]; exact hjn
      have hA := HD.out.2.2.1 (A[j]'(by rw [HD.out.1]; exact hjn)) (List.getElem_mem _)
      have hC := HD.out.2.2.2.1 (C[j]'(by rw [HD.out.2.1]; exact hjn)) (List.getElem_mem _)
      have eA : sA[j] = A[j]'(by rw [HD.out.1]; exact hjn) := by have h := HG.out.1; subst h; rfl
      have eC : sC[j] = C[j]'(by rw [HD.out.2.1]; exact hjn) := by have h := HG.out.2; subst h; rfl
      rw [← eA] at hA
      rw [← eC] at hC
      have HCOL := fun w => column_any g (sA[j].toNat : Int) (sC[j].toNat : Int) cv add w HE.out.1 (by omega) (by omega) hcb
      have c0 := hbk.c j (cur[j]'(by omega)) (Array.getElem?_eq_getElem _)
      have f0 := hbk.free j
      obtain ⟨uu, hu⟩ : ∃ u, cur[j]'(by omega) = u := ⟨_, rfl⟩
      rw [hu] at c0
      obtain ⟨dd, hdd⟩ : ∃ d, cd ((sA[j].toNat : Int) - 48 + g * ((sC[j].toNat : Int) - 48 + cv)) = d := ⟨_, rfl⟩
      obtain ⟨ee, hee⟩ : ∃ d, cc ((sA[j].toNat : Int) - 48 + g * ((sC[j].toNat : Int) - 48 + cv)) = d := ⟨_, rfl⟩
      rw [hdd, hee] at HCOL
      have H := Lib.hid (And.intro hP (And.intro hbk (And.intro hcs (And.intro hdr (And.intro hbel (And.intro hdd (And.intro hee (And.intro eA eC))))))))
      clear hP hbk hcs hdr hbel hu hdd hee eA eC hA hC hcb hik hkn hlt
      have i1 : (j : Int) < n := by omega
      have i2 : (0 : Int) ≤ (j : Int) := by omega
      have i3 : (j : Int) < sA.size := by omega
      have i4 : (j : Int) < sC.size := by omega
      go_wp2_with fail
      go_region_held3 (fun w' => w'.frozen? ⟨blk, j, none⟩ = false) (first | exact f0 | simpa using f0) (first | (go_at_call 212; refine (HCOL _).mono ?_; rintro e w' ⟨rfl, rfl⟩))
      all_goals
        go_wp2_with fail
        go_roundg j
        case measure => omega
        case rel =>
          obtain ⟨hP, hbk, hcs, hdr, hbel, hdd, hee, eA, eC⟩ := H.out
          have hA := HD.out.2.2.1 (A[j]'(by rw [HD.out.1]; exact hjn)) (List.getElem_mem _)
          have hC := HD.out.2.2.2.1 (C[j]'(by rw [HD.out.2.1]; exact hjn)) (List.getElem_mem _)
          rw [eA, eC, byte_sub hA, byte_sub hC] at hdd hee
          have hg2 : g = 1 ∨ g = -1 := by rw [HE.out.1]; cases add <;> simp
          have hk := col_ok (g := g) (x := (((A[j]'(by rw [HD.out.1]; exact hjn)).toNat - 48 : Nat) : Int)) (y := (((C[j]'(by rw [HD.out.2.1]; exact hjn)).toNat - 48 : Nat) : Int)) (c := cv) hg2 (by omega) (by omega) hP.cb
          rw [hdd] at hk
          obtain ⟨d, hd⟩ : ∃ d : UInt8, (d.toNat : Int) = 48 + dd := ⟨UInt8.ofNat (48 + dd.toNat), by rw [toNat_digit (by omega)]; omega⟩
          have hst := Pap.step (d := d) hP hg2 (by rw [HD.out.1, HD.out.2.1]) HD.out.2.2.1 HD.out.2.2.2.1 (by rw [HD.out.1]; exact hjn) (by rw [hdd]; exact hd)
          rw [hee] at hst
          refine ⟨ee, (j : Int) - 1, d :: t, cur.setIfInBounds j (.int .u8 (48 + dd)), rfl, by go_num, by omega, by omega, hst, (hbk.set j _).to ((Below.refl _ _).drew), by rw [Array.size_setIfInBounds]; exact hcs, ?_, (hbel.setCell (p := ⟨blk, j, none⟩) HB.out.2.2.2 _).drew⟩
          rw [drop_set_cons cur j _ (by omega), hdr]
          simp [bc, hd]
    · obtain rfl : gk = 0 := by omega
      have hiv : iv = -1 := by omega
      subst hiv
      have hcur : cur = bc t := by apply Array.ext'; rw [← hdr, List.drop_zero]
      rw [hcur] at hbk hcs
      rw [bc_size] at hcs
      have hcv := conv_row wr blk n n t hcs (fun j hj => hbk.c j _ (bc_get hj))
      have hg2 : g = 1 ∨ g = -1 := by rw [HE.out.1]; cases add <;> simp
      have hdn := hP.done (a := la) (b := lb) hg2 (by rw [HD.out.1]; exact HE.out.2.2.2.2) HD.out.2.2.2.2.1 HD.out.2.2.2.2.2 (by rw [HE.out.2.2.1]; exact dig_decDigits _) (by rw [HE.out.2.2.2.1]; exact dig_decDigits _) (fun h => by rw [HE.out.2.2.1, HE.out.2.2.2.1, dv_decDigits, dv_decDigits]; exact HE.out.2.1 h)
      rw [HE.out.2.2.1, HE.out.2.2.2.1, dv_decDigits, dv_decDigits] at hdn
      have HBR := fun w => bare_calls t w hP.dig (by intro e; rw [e] at hcs; simp at hcs; omega) (by omega)
      have hdv : dv t = ((u : Int) + g * v).toNat := by omega
      rw [hdv] at HBR
      have HF := Lib.hid hbel
      clear hP hbk hcs hdr hbel hdn hdv hcur hg2 hlt
      go_wp2_with fail
      refine (HBR _).mono ?_
      rintro e w5 ⟨rfl, rfl⟩
      clear HBR
      go_wp2_with fail
      go_ret
      exact ⟨rfl, HF.out⟩

end Go.Proofs.YtgdlfjofefhdoaaGreatDoor

namespace Go.Proofs.YtgdlfjofefhdoaaGreatDoor
open Go.RowKit Go.Sort Go.Lib Mb

/-- columns as cells -/
def ic (f : Nat → Int) (n : Nat) : Array Value := ((List.range n).map fun j => Value.int .i64 (f j)).toArray
theorem ic_size (f : Nat → Int) (n : Nat) : (ic f n).size = n := by simp [ic]
theorem ic_get {f : Nat → Int} {n i : Nat} (h : i < n) : (ic f n)[i]? = some (.int .i64 (f i)) := by simp [ic, h]
theorem ic_set (f : Nat → Int) (n i : Nat) (v : Int) : (ic f n).setIfInBounds i (.int .i64 v) = ic (upd f i v) n := by
  apply Array.ext (by simp [ic])
  intro j h1 h2
  have h3 : j < n := by rw [ic_size] at h2; exact h2
  rw [Array.getElem_setIfInBounds (by rw [ic_size]; exact h3)]
  simp only [ic, List.getElem_toArray, List.getElem_map, List.getElem_range]
  by_cases e : i = j
  · subst e; simp [upd_same]
  · rw [if_neg e, upd_other (by omega)]

theorem infoInt1 : (Tryz.prog.info? 3).map (fun i => (i.zero, i.size, i.bytes)) = some (some (.int .i64 0), 1, 8) := by kernel_rfl

theorem made_ic (n : Nat) : (madeCells (Value.int .i64 0).cells (n * 1)).toList.toArray = ic (fun _ => 0) n := by
  have h : madeCells (Value.int .i64 0).cells (n * 1) = ic (fun _ => 0) n := by
    rw [Nat.mul_one]
    apply Array.ext
    · simp [madeCells, ic]
    · intro j h1 h2
      simp [madeCells, ic, Value.cells, Nat.mod_one]
  rw [h]

theorem head_digit (l : List UInt8) (s : ByteArray) (hs : s = ⟨l.toArray⟩) (h : Dig l) (j : Nat) (hj : j < s.size) : ((s[j].toNat : Int) - 48 = (((l.getD j 48).toNat - 48 : Nat) : Int)) ∧ 48 ≤ (s[j].toNat : Int) ∧ (s[j].toNat : Int) ≤ 57 := by
  subst hs
  have hj' : j < l.length := hj
  have e : (⟨l.toArray⟩ : ByteArray)[j] = l[j] := rfl
  have h2 := h l[j] (List.getElem_mem _)
  have e3 : l.getD j 48 = l[j] := by simp [List.getD, hj']
  rw [e, e3]
  omega

set_option maxRecDepth 100000 in
set_option maxHeartbeats 3200000 in
theorem product_calls (u v : Nat) (w : World) (lu : (decDigits u).length ≤ 1000) (lv : (decDigits v).length ≤ 1000) :
    Calls Tryz.prog 161 #[Dd u, Dd v] w fun e w' => e = .returned (Dd (u * v)) ∧ Below w.heap.size w w' := by
  obtain ⟨i0, hi0, hz0, hz1, hz2⟩ := info_parts infoInt1
  obtain ⟨j0, hj0, yz0, yz1, yz2⟩ := info_parts infoByte1
  obtain ⟨a, ha⟩ : ∃ la, la = decDigits u := ⟨_, rfl⟩
  obtain ⟨b, hb⟩ : ∃ lb, lb = decDigits v := ⟨_, rfl⟩
  obtain ⟨sa, hsa⟩ : ∃ s : ByteArray, s = ⟨a.toArray⟩ := ⟨_, rfl⟩
  obtain ⟨sb, hsb⟩ : ∃ s : ByteArray, s = ⟨b.toArray⟩ := ⟨_, rfl⟩
  have za : sa.size = a.length := by rw [hsa]; simp [ByteArray.size]
  have zb : sb.size = b.length := by rw [hsb]; simp [ByteArray.size]
  have hda : Dig a := by rw [ha]; exact dig_decDigits _
  have hdb : Dig b := by rw [hb]; exact dig_decDigits _
  show Calls _ _ #[.string ⟨(decDigits u).toArray⟩, .string ⟨(decDigits v).toArray⟩] w _
  rw [← ha, ← hb, ← hsa, ← hsb]
  rw [← ha] at lu
  rw [← hb] at lv
  obtain ⟨n, hn⟩ : ∃ n, n = sa.size + sb.size := ⟨_, rfl⟩
  have hn' : (sa.size : Int) + (sb.size : Int) = (n : Int) := by omega
  have hn2 : n ≤ 2000 := by omega
  have la1 : sa.size ≤ 1000 := by omega
  have lb1 : sb.size ≤ 1000 := by omega
  have HA := Lib.hid (And.intro ha (And.intro hb (And.intro hsa (And.intro hsb (And.intro za (And.intro zb (And.intro hda (And.intro hdb hn))))))))
  clear ha hb hsa hsb za zb hda hdb hn lu lv
  go_enter Tryz.func161, Tryz.ntmps161
  go_wp2_with (at_make; refine wpList_make_full _ rfl (.tmp 15) (.tmp 15) 73 rfl w.heap.size 3 i0 (.int .i64 0) 1 Tryz.underlying73 hi0 hz0 hz1 .i64 .i64 _ _ n rfl rfl (by first | rfl | (rw [hn'])) (by first | rfl | (rw [hn'])) (by rw [hz2]; omega) (by unfold maxLen; omega) (Nat.le_refl _) ?_; intro w2 hown hgrow)
  obtain ⟨hblk, hlen⟩ := blk_made hown
  have hbw : Below w.heap.size w w2 := (Below.refl _ _).grown hgrow (Nat.le_refl _) (fun k e => by cases e)
  obtain ⟨blk, hblk'⟩ : ∃ blk, blk = w.heap.size := ⟨_, rfl⟩
  rw [← hblk'] at hblk ⊢
  rw [made_ic] at hblk
  have HB := Lib.hid (And.intro hblk (And.intro hblk' hbw))
  clear hblk hblk' hlen hbw hown hgrow
  go_loopg [6] sa.size (fun g i wr => ∃ (iv : Nat) (f : Nat → Int), iv + g = sa.size ∧ i = .int .i64 iv ∧ Col a b iv 0 f ∧ Blk wr blk (ic f n) 3 ∧ Below w.heap.size w wr)
  case atStart => exact ⟨0, _, Nat.zero_add _, rfl, Col.start a b, HB.out.1, HB.out.2.2⟩
  case round =>
    obtain ⟨iv, f, hi, rfl, hc, hbk, hbel⟩ := hrel
    have H0 := Lib.hid (And.intro hc (And.intro hbk hbel)); clear hc hbk hbel
    by_cases hlt : iv < sa.size
    · go_wp2_with fail
      go_loopg [7] sb.size (fun g k wr => ∃ (kv : Nat) (f : Nat → Int), kv + g = sb.size ∧ k = .int .i64 kv ∧ Col a b iv kv f ∧ Blk wr blk (ic f n) 3 ∧ Below w.heap.size w wr)
      case atStart => exact ⟨0, f, Nat.zero_add _, rfl, H0.out.1, H0.out.2.1, H0.out.2.2⟩
      case round =>
        clear H0 f
        obtain ⟨kv, f, hk, rfl, hc, hbk, hbel⟩ := hrel
        by_cases hlk : kv < sb.size
        · have hx := head_digit a sa HA.out.2.2.1 HA.out.2.2.2.2.2.2.1 iv hlt
          have hy := head_digit b sb HA.out.2.2.2.1 HA.out.2.2.2.2.2.2.2.1 kv hlk
          have hx9 := dig9 HA.out.2.2.2.2.2.2.1 iv
          have hy9 := dig9 HA.out.2.2.2.2.2.2.2.1 kv
          obtain ⟨p, hp⟩ : ∃ p, p = iv + kv + 1 := ⟨_, rfl⟩
          have hpn : p < n := by have := HA.out.2.2.2.2.2.2.2.2; omega
          have hfb := hc.bd p
          have hfb2 : f p ≤ 82000000 := by
            have h1 : iv * b.length ≤ 1000 * 1000 := Nat.mul_le_mul (by omega) (by have := HA.out.2.2.2.2.2.1; omega)
            have h2 : (iv : Int) * b.length = ((iv * b.length : Nat) : Int) := by simp
            rw [h2] at hfb
            omega
          have c0 := hbk.c p _ (ic_get hpn)
          have f0 := hbk.free p
          obtain ⟨X, hX⟩ : ∃ X, X = (((a.getD iv 48).toNat - 48 : Nat) : Int) := ⟨_, rfl⟩
          obtain ⟨Y, hY⟩ : ∃ X, X = (((b.getD kv 48).toNat - 48 : Nat) : Int) := ⟨_, rfl⟩
          have hXb : 0 ≤ X ∧ X ≤ 9 := by omega
          have hYb : 0 ≤ Y ∧ Y ≤ 9 := by omega
          rw [← hX] at hx
          rw [← hY] at hy
          have hM := Mb.mul_bd (A := 9) (C := 9) (a := X) (b := Y) (by omega) (by omega)
          obtain ⟨M, hMe⟩ : ∃ M, X * Y = M := ⟨_, rfl⟩
          rw [hMe] at hM
          obtain ⟨fp, hfp⟩ : ∃ z, f p = z := ⟨_, rfl⟩
          rw [hfp] at c0 hfb hfb2
          obtain ⟨S', hS'⟩ : ∃ S', fp + M = S' := ⟨_, rfl⟩
          have w1 : IntKind.u8.wrap ((sa[iv].toNat : Int) - 48) = X := by rw [hx.1]; exact IntWalk.u8_in _ (by omega)
          have w2 : IntKind.u8.wrap ((sb[kv].toNat : Int) - 48) = Y := by rw [hy.1]; exact IntWalk.u8_in _ (by omega)
          have w3 : IntKind.i64.wrap (X * Y) = M := by rw [hMe]; exact IntWalk.i64_in _ (by omega)
          have w4 : IntKind.i64.wrap (fp + M) = S' := by rw [hS']; exact IntWalk.i64_in _ (by omega)
          have w5 : IntKind.i64.wrap ((iv : Int) + (kv : Int)) = (iv : Int) + (kv : Int) := IntWalk.i64_in _ (by omega)
          have w6 : IntKind.i64.wrap ((iv : Int) + (kv : Int) + 1) = (p : Int) := by rw [hp, IntWalk.i64_in _ (by omega)]; simp
          have w7 : IntKind.i64.wrap X = X := IntWalk.i64_in _ (by omega)
          have w8 : IntKind.i64.wrap Y = Y := IntWalk.i64_in _ (by omega)
          have i1 : (iv : Int) < sa.size := by omega
          have i2 : (kv : Int) < sb.size := by omega
          have i3 : (p : Int) < n := by omega
          have i4 : (0 : Int) ≤ (p : Int) := by omega
          have H := Lib.hid (And.intro hc (And.intro hbk (And.intro hbel (And.intro hp (And.intro hX (And.intro hY (And.intro hMe (And.intro hfp hS'))))))))
          obtain ⟨X1, X2⟩ := hXb
          obtain ⟨Y1, Y2⟩ := hYb
          clear hc hbk hbel hp hX hY hMe hfp hS' hx hy hx9 hy9 hpn hfb hfb2 hM
          have k0 : ∀ q, (wr.drewN q).cell? ⟨blk, p, none⟩ = some (.int .i64 fp) := fun q => cell_to c0 (bel_dn _ _)
          go_wp2_with fail
          refine wp_region_first (fun w' => ∃ q, w' = wr.drewN q) 20 (by kernel_rfl) (by kernel_rfl) (by kernel_rfl) ⟨1, rfl⟩ ?_
          simp only [List.take_succ_cons, List.take_zero, List.drop_succ_cons, List.drop_zero]
          repeat (quiet_step_in (fail))
          refine wpQuietIn_nil ?_
          intro _ hw'
          obtain ⟨q, rfl⟩ := hw'
          gi_wp2_with fail
          go_wp2_with fail
          go_roundg (sb.size - kv - 1)
          case measure => omega
          case rel =>
            obtain ⟨hc, hbk, hbel, hp, hX, hY, hMe, hfp, hS'⟩ := H.out
            refine ⟨kv + 1, upd f p S', by omega, by go_num, ?_, ?_, ?_⟩
            · have := hc.step HA.out.2.2.2.2.2.2.1 HA.out.2.2.2.2.2.2.2.1 (by have := HA.out.2.2.2.2.1; omega) (by have := HA.out.2.2.2.2.2.1; omega)
              rw [← hX, ← hY, hMe, ← hp, hfp, hS'] at this
              exact this
            · have := (hbk.to (bel_dn wr q)).set p (.int .i64 S')
              rwa [ic_set] at this
            · exact ((hbel.trans ((bel_dn wr q).mono hbel.size)).setCell (p := ⟨blk, p, none⟩) (by rw [HB.out.2.1]; exact Nat.le_refl _) _)
        · obtain rfl : kv = sb.size := by omega
          have H := Lib.hid (And.intro hc (And.intro hbk hbel)); clear hc hbk hbel
          go_wp2_with fail
          go_roundg (sa.size - iv - 1)
          case measure => omega
          case rel =>
            obtain ⟨hc, hbk, hbel⟩ := H.out
            refine ⟨iv + 1, f, by omega, by go_num, ?_, hbk, hbel⟩
            have := HA.out.2.2.2.2.2.1
            rw [this] at hc
            exact hc.row (by have := HA.out.2.2.2.2.1; omega)
    · obtain rfl : iv = sa.size := by omega
      obtain ⟨hc, hbk, hbel⟩ := H0.out
      have hfb : ∀ j, 0 ≤ f j ∧ f j ≤ 82000000 := fun j => by
        have h := hc.bd j
        have h1 : sa.size * b.length ≤ 1000 * 1000 := Nat.mul_le_mul (by omega) (by have := HA.out.2.2.2.2.2.1; omega)
        have h2 : (sa.size : Int) * b.length = ((sa.size * b.length : Nat) : Int) := by simp
        rw [h2] at h
        omega
      have hcv : cv f n = (u : Int) * v := by
        obtain ⟨ha, hb, hsa, hsb, za, zb, hda, hdb, hn⟩ := HA.out
        rw [za] at hc
        have := hc.done
        rw [ha, hb, dv_decDigits, dv_decDigits] at this
        rw [← this, hn, za, zb, ha, hb]
      have hlt2 : cv f n < pw n := by
        obtain ⟨ha, hb, hsa, hsb, za, zb, hda, hdb, hn⟩ := HA.out
        have := prod_lt hda hdb
        rw [hcv, hn, za, zb]
        rw [ha, hb, dv_decDigits, dv_decDigits] at this
        rwa [ha, hb]
      have hn0 : 0 < n := by
        obtain ⟨ha, hb, hsa, hsb, za, zb, hda, hdb, hn⟩ := HA.out
        have : 0 < a.length := List.length_pos_iff.2 (by rw [ha]; exact decDigits_ne _)
        omega
      have H1 := Lib.hid (And.intro hbk (And.intro hbel (And.intro hfb (And.intro hcv hlt2))))
      clear hc hbk hbel hfb hcv hlt2 H0 hlt
      have hs1 : IntKind.i64.wrap ((n : Int) - 1) = (n : Int) - 1 := IntWalk.i64_in _ (by omega)
      go_wp2_with (at_make; refine wpList_make_full _ rfl (.tmp 50) (.tmp 50) 177 rfl wr.heap.size 5 j0 (.int .u8 0) 1 Tryz.underlying177 hj0 yz0 yz1 .i64 .i64 _ _ n rfl rfl rfl rfl (by rw [yz2]; omega) (by unfold maxLen; omega) (Nat.le_refl _) ?_; intro w3 hown hgrow)
      obtain ⟨hblk, hlen⟩ := blk_made hown
      have hbw : Below wr.heap.size wr w3 := (Below.refl _ _).grown hgrow (Nat.le_refl _) (fun k e => by cases e)
      obtain ⟨out, hout⟩ : ∃ out, out = wr.heap.size := ⟨_, rfl⟩
      rw [← hout] at hblk ⊢
      have hne : blk < out := by rw [hout]; exact H1.out.1.lt
      have hwo : w.heap.size ≤ out := by rw [hout]; exact H1.out.2.1.size
      have HO := Lib.hid (And.intro hblk (And.intro hlen (And.intro (H1.out.1.to hbw) (And.intro (below_trans H1.out.2.1 hbw) (And.intro hne hwo)))))
      clear hblk hlen hbw hown hgrow hout hne hwo
      go_loopg [9, 10] n (fun k c i wr => ∃ (cv iv : Int) (t : List UInt8) (cur : Array Value), c = .int .i64 cv ∧ i = .int .i64 iv ∧ iv + 1 = k ∧ k ≤ n ∧ Car f n k cv t ∧ (0 ≤ cv ∧ cv ≤ 82000000) ∧ Blk wr out cur 5 ∧ cur.size = n ∧ cur.toList.drop k = (bc t).toList ∧ Blk wr blk (ic f n) 3 ∧ Below w.heap.size w wr)
      case atStart =>
        refine ⟨0, (n : Int) - 1, [], _, rfl, rfl, by omega, Nat.le_refl _, Car.start f n, by omega, HO.out.1, by have := HO.out.2.1; simpa using this, ?_, HO.out.2.2.1, HO.out.2.2.2.1⟩
        rw [List.drop_of_length_le (by have := HO.out.2.1; simp at this ⊢; omega)]; rfl
      case round =>
        obtain ⟨cv', iv, t, cur, rfl, rfl, hik, hkn, hP, hcb, hbk, hcs, hdr, hbi, hbel⟩ := hrel
        by_cases hlt : 0 ≤ iv
        · obtain ⟨j, rfl⟩ := Int.eq_ofNat_of_zero_le hlt
          obtain rfl : gk = j + 1 := by omega
          have hjn : j < n := by omega
          have hfj := H1.out.2.2.1 j
          have c0 := hbk.c j (cur[j]'(by omega)) (Array.getElem?_eq_getElem _)
          have f0 := hbk.free j
          have c1 := hbi.c j _ (ic_get hjn)
          obtain ⟨uu, hu⟩ : ∃ u, cur[j]'(by omega) = u := ⟨_, rfl⟩
          rw [hu] at c0
          obtain ⟨fj, hfj'⟩ : ∃ z, f j = z := ⟨_, rfl⟩
          rw [hfj'] at c1 hfj
          obtain ⟨S', hS'⟩ : ∃ S', cv' + fj = S' := ⟨_, rfl⟩
          have w1 : IntKind.i64.wrap (cv' + fj) = S' := by rw [hS']; exact IntWalk.i64_in _ (by omega)
          obtain ⟨D, hD⟩ : ∃ D, S' % 10 = D := ⟨_, rfl⟩
          obtain ⟨E, hE⟩ : ∃ E, S' / 10 = E := ⟨_, rfl⟩
          have w2 : S'.tmod 10 = D := by rw [Int.tmod_eq_emod_of_nonneg (by omega)]; exact hD
          have w3 : S'.tdiv 10 = E := by rw [Int.tdiv_eq_ediv_of_nonneg (by omega)]; exact hE
          have dD : 0 ≤ D ∧ D < 10 := by omega
          have eE : 0 ≤ E ∧ E ≤ 82000000 := by omega
          have H := Lib.hid (And.intro hP (And.intro hcb (And.intro hbk (And.intro hcs (And.intro hdr (And.intro hbi (And.intro hbel (And.intro hfj' (And.intro hS' (And.intro hD (And.intro hE (And.intro dD eE))))))))))))
          obtain ⟨d1, d2⟩ := dD
          obtain ⟨e1, e2⟩ := eE
          have i1 : (j : Int) < n := by omega
          have i2 : (0 : Int) ≤ (j : Int) := by omega
          clear hP hcb hbk hcs hdr hbi hbel hfj' hS' hD hE hfj hu hik hkn hlt
          go_wp2_with fail
          go_roundg j
          case measure => omega
          case rel =>
            obtain ⟨hP, hcb, hbk, hcs, hdr, hbi, hbel, hfj', hS', hD, hE, dD, eE⟩ := H.out
            obtain ⟨d, hd⟩ : ∃ d : UInt8, (d.toNat : Int) = 48 + D := ⟨UInt8.ofNat (48 + D.toNat), by rw [toNat_digit (by omega)]; omega⟩
            have hfjb := H1.out.2.2.1 j
            have hst := Car.step (d := d) hP (by rw [hfj', hS', hD]; exact hd)
            rw [hfj', hS', hE] at hst
            refine ⟨E, (j : Int) - 1, d :: t, cur.setIfInBounds j (.int .u8 (48 + D)), rfl, by go_num, by omega, by omega, hst, eE, hbk.set j _, by rw [Array.size_setIfInBounds]; exact hcs, ?_, ?_, hbel.setCell (p := ⟨out, j, none⟩) HO.out.2.2.2.2.2 _⟩
            · rw [drop_set_cons cur j _ (by omega), hdr]
              simp [bc, hd]
            · have hb2 : Below out wr (wr.setCell ⟨out, j, none⟩ (.int .u8 (48 + D))) := (Below.refl _ _).setCell (p := ⟨out, j, none⟩) (Nat.le_refl _) _
              unfold Blk at hbi ⊢
              rw [hb2.block blk HO.out.2.2.2.2.1]; exact hbi
        · obtain rfl : gk = 0 := by omega
          have hiv : iv = -1 := by omega
          subst hiv
          have hcur : cur = bc t := by apply Array.ext'; rw [← hdr, List.drop_zero]
          rw [hcur] at hbk hcs
          rw [bc_size] at hcs
          have hcv2 := conv_row wr out n n t hcs (fun j hj => hbk.c j _ (bc_get hj))
          have hdn := hP.done hcb.1 H1.out.2.2.2.2
          rw [H1.out.2.2.2.1] at hdn
          have HBR := fun w => bare_calls t w hP.dig (by intro e; rw [e] at hcs; simp at hcs; omega) (by omega)
          have hdv : dv t = u * v := by rw [← Int.natCast_mul] at hdn; omega
          rw [hdv] at HBR
          have HF := Lib.hid hbel
          clear hP hbk hcs hdr hbel hdn hdv hcur hbi hcb hlt
          go_wp2_with fail
          refine (HBR _).mono ?_
          rintro e w5 ⟨rfl, rfl⟩
          clear HBR
          go_wp2_with fail
          go_ret
          exact ⟨rfl, HF.out⟩

end Go.Proofs.YtgdlfjofefhdoaaGreatDoor
