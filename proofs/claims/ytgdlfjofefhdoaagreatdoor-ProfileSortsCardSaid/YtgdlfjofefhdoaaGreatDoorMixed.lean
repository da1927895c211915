/- A region that draws its order inside a fence, in a round or not: the first operations read, or call quietly; the others follow one another. No program here. -/
import Derived.Sort.QuietTacIn
import Derived.TacticsIn
import Derived.BigRegionIn
namespace Mb
open Go

/-- the operations ahead are unguarded, each waits for earlier ones alone and is waited for by a later one up to the first of the others; of the others each waits for the one ahead of it -/
structure Mix (ops : Array Oper) (m : Nat) : Prop where
  m_lt : m < ops.size
  back : ∀ i o, ops[i]? = some o → ∀ e ∈ o.after, Region.binds .any e = true → e.on < i
  chain : ∀ i o, m < i → ops[i]? = some o → ∃ e ∈ o.after, Region.binds .any e = true ∧ e.on = i - 1
  succ : ∀ i, i < m → ∃ k o, i < k ∧ k ≤ m ∧ ops[k]? = some o ∧ ∃ e ∈ o.after, Region.binds .any e = true ∧ e.on = i

def mixB (ops : Array Oper) (m : Nat) : Bool :=
  decide (m < ops.size) &&
  ((List.range ops.size).all fun i => match ops[i]? with
    | some o => (o.after.all fun e => !Region.binds .any e || decide (e.on < i)) && (decide (i ≤ m) || o.after.any fun e => Region.binds .any e && e.on == i - 1)
    | none => true) &&
  ((List.range m).all fun i => (List.range (m + 1)).any fun k => decide (i < k) && match ops[k]? with
    | some o => o.after.any fun e => Region.binds .any e && e.on == i
    | none => false)

theorem mix_of {ops : Array Oper} {m : Nat} (h : mixB ops m = true) : Mix ops m := by
  simp only [mixB, Bool.and_eq_true, decide_eq_true_eq, List.all_eq_true, List.mem_range, List.any_eq_true] at h
  obtain ⟨⟨h1, h2⟩, h3⟩ := h
  refine ⟨h1, fun i o ho e he hb => ?_, fun i o hi ho => ?_, fun i hi => ?_⟩
  · have := h2 i (Array.getElem?_eq_some_iff.1 ho).1
    simp only [ho, Bool.and_eq_true] at this
    have h4 := Array.all_eq_true_iff_forall_mem.1 this.1 e he
    simpa [hb] using h4
  · have := h2 i (Array.getElem?_eq_some_iff.1 ho).1
    simp only [ho, Bool.and_eq_true, Bool.or_eq_true, decide_eq_true_eq] at this
    rcases this.2 with h4 | h4
    · omega
    · obtain ⟨e, he, hb⟩ := Array.any_eq_true'.1 h4
      simp only [Bool.and_eq_true, beq_iff_eq] at hb
      exact ⟨e, he, hb.1, hb.2⟩
  · obtain ⟨k, hk, hik, hm⟩ := h3 i hi
    cases ho : ops[k]? with
    | none => simp [ho] at hm
    | some o =>
      simp only [ho] at hm
      obtain ⟨e, he, hb⟩ := Array.any_eq_true'.1 hm
      simp only [Bool.and_eq_true, beq_iff_eq] at hb
      exact ⟨k, o, by simpa using hik, by omega, ho, e, he, hb.1, hb.2⟩

theorem least {p : Nat → Prop} : ∀ {m : Nat}, (∃ i, i < m ∧ ¬ p i) → ∃ i, i < m ∧ ¬ p i ∧ ∀ k, k < i → p k
  | 0, h => by obtain ⟨i, hi, _⟩ := h; omega
  | m + 1, h => by
    by_cases h' : ∃ i, i < m ∧ ¬ p i
    · obtain ⟨i, hi, hn, hk⟩ := least h'
      exact ⟨i, by omega, hn, hk⟩
    · obtain ⟨i, hi, hn⟩ := h
      have him : i = m := by
        rcases Nat.lt_or_ge i m with h1 | h1
        · exact absurd ⟨i, h1, hn⟩ h'
        · omega
      subst him
      exact ⟨i, hi, hn, fun k hk => Classical.byContradiction fun hc => h' ⟨k, hk, hc⟩⟩

theorem gd {a : Array Bool} {i : Nat} (h : i < a.size) : a.getD i true = a.getD i false := by simp [h]

section
variable {F : Fence} {n : Nat} {P : Program} {ops : Array Oper} {C : World → Prop} {Q : Exit → Act → World → Prop} {m : Nat}

theorem rest_ok (hM : Mix ops m) : ∀ (l : List Oper) (j r : Nat) (listed : Array Bool) (a : Act) (w : World), (∀ t, l[t]? = ops[j + t]?) → m ≤ j → listed.size = ops.size →
    (∀ i, i < j → i < ops.size → listed.getD i true = true) → (∀ i, j ≤ i → i < ops.size → listed.getD i true = false) → l.length ≤ r → wpListIn F n P ops Q l a w → wpAnyIn F n P .any ops Q r listed a w
  | [], j, r, listed, a, w, hl, hm, hs, hin, hun, hr, h => by
    have hj : ops.size ≤ j := by have := hl 0; simpa using this.symm
    refine wpAnyIn_done ?_ h r
    cases hc : Region.ready .any ops listed with
    | nil => rfl
    | cons i rs =>
      have hi : i ∈ Region.ready .any ops listed := by rw [hc]; simp
      obtain ⟨h1, o, ho, _⟩ := mem_ready.1 hi
      have hlt := (Array.getElem?_eq_some_iff.1 ho).1
      rw [hin i (by omega) hlt] at h1
      cases h1
  | o :: l, j, r, listed, a, w, hl, hm, hs, hin, hun, hr, h => by
    have h0 : ops[j]? = some o := by simpa using (hl 0).symm
    have hjs := (Array.getElem?_eq_some_iff.1 h0).1
    obtain ⟨r, rfl⟩ : ∃ q, r = q + 1 := ⟨r - 1, by simp at hr; omega⟩
    have hj : ∀ i ∈ Region.ready .any ops listed, i = j := by
      intro i hi
      obtain ⟨h1, oi, ho, hall⟩ := mem_ready.1 hi
      have hlt := (Array.getElem?_eq_some_iff.1 ho).1
      rcases Nat.lt_trichotomy i j with h2 | h2 | h2
      · rw [hin i h2 hlt] at h1; cases h1
      · exact h2
      · obtain ⟨e, he, hb, heq⟩ := hM.chain i oi (by omega) ho
        have h3 := hall e he hb
        rw [heq, ← gd (by omega), hun (i - 1) (by omega) (by omega)] at h3
        cases h3
    have hjr : j ∈ Region.ready .any ops listed := mem_ready.2 ⟨hun j (Nat.le_refl _) hjs, o, h0, fun e he hb => by
      have := hM.back j o h0 e he hb
      rw [← gd (by omega)]; exact hin _ this (by omega)⟩
    refine ⟨fun hc => absurd hjr (by rw [hc]; simp), fun i hi => ?_⟩
    obtain rfl := hj i hi
    have hh : wpOpIn F n P ops Q i (wpListIn F n P ops Q l) a w := by unfold wpOpIn; simp only [h0]; exact h
    refine wpOpIn_mono (fun a' w' h' => rest_ok hM l (i + 1) r _ a' w' (fun t => by have := hl (t + 1); simpa [Nat.add_assoc, Nat.add_comm 1 t] using this) (by omega) (by simpa using hs) (fun k hk hks => ?_) (fun k hk hks => ?_) (by simp at hr; omega) h') hh
    · by_cases e : i = k
      · subst e; simp [hs, hks]
      · rw [getD_set_ne true e]; exact hin k (by omega) hks
    · rw [getD_set_ne true (by omega)]; exact hun k (by omega) hks

theorem wpIn_of_quiet' {o : Oper} {a : Act} {K : Act → Prop} {K' : Act → World → Prop} {Q' : Exit → Act → World → Prop} {w : World} (hd : ∀ c, o.op ≠ .defer c) (hw : C w) (h : ∀ a w', C w' → K a → K' a w')
    (ha : o.askedIn F P a C) (hh : o.quietIn F n P a C K) : o.wpIn F n P a w K' Q' := by
  obtain ⟨v, h1, h2⟩ := hh
  have h3 := h1 w hw
  unfold Oper.quietAtIn at h3
  unfold Oper.wpIn
  refine ⟨ha w hw, ?_⟩
  rw [Oper.semAt_eq _ _ _ hd]
  generalize (execOp a.eval o).run P w = r at *
  cases r with
  | ok x w' =>
    cases x <;> simp only [Oper.quietUponIn] at h3 <;> simp only [Oper.uponIn]
    case value u =>
      obtain ⟨e1, e2⟩ := h3
      rw [e1, e2]
      exact h _ _ hw h2
    case skip =>
      obtain ⟨e1, e2⟩ := h3
      rw [e1, ← e2]
      exact h _ _ hw h2
    case enter f args =>
      obtain ⟨e1, hd, hc⟩ := h3
      rw [e1]
      exact ⟨hd, hc.mono fun e w'' ⟨he, hw''⟩ => by subst he; exact h _ _ hw'' h2⟩
  | halt x w' => simp only [Oper.quietUponIn] at h3

variable {ops₁ : Array Oper} {Q1 : Act → Prop} {l₂ : List Oper}

theorem fwd (hM : Mix ops m) (h1s : ops₁.size = m) (h1 : ∀ i, i < m → ops₁[i]? = ops[i]?) (hg : ∀ i o, i < m → ops[i]? = some o → o.guard = none ∧ ∀ c, o.op ≠ .defer c) (h2 : ∀ t, l₂[t]? = ops[m + t]?)
    (hend : ∀ a w, C w → Q1 a → wpListIn F n P ops Q l₂ a w) : ∀ (fuel r : Nat) (listed₁ listed : Array Bool) (a : Act) (w : World), C w → listed.size = ops.size → listed₁.size = m → (∀ i, i < m → listed.getD i true = listed₁.getD i true) →
      (∀ i, m ≤ i → i < ops.size → listed.getD i true = false) → (∀ i o, i < m → ops[i]? = some o → listed.getD i true = true → ∀ e ∈ o.after, Region.binds .any e = true → listed.getD e.on true = true) → l₂.length ≤ r →
      wpAnyQIn F n P .any ops₁ C Q1 fuel listed₁ a → wpAnyIn F n P .any ops Q (fuel + r) listed a w := by
  have hmlt := hM.m_lt
  intro fuel
  induction fuel with
  | zero =>
    intro r listed₁ listed a w hC hs hs1 hag hun hdn hr h
    have hall : ∀ i, i < m → listed.getD i true = true := by
      refine fun i hi => Classical.byContradiction fun hc => ?_
      obtain ⟨k, hk, hn, hlt⟩ := least (p := fun i => listed.getD i true = true) ⟨i, hi, hc⟩
      obtain ⟨o, ho⟩ : ∃ o, ops[k]? = some o := ⟨_, Array.getElem?_eq_getElem (by omega)⟩
      have hr1 : k ∈ Region.ready .any ops₁ listed₁ := mem_ready.2 ⟨by rw [← hag k hk]; simpa using hn, o, by rw [h1 k hk]; exact ho, fun e he hb => by
        have := hM.back k o ho e he hb
        rw [← gd (by omega), ← hag _ (by omega)]; exact hlt _ this⟩
      rw [h.1] at hr1
      cases hr1
    exact rest_ok hM l₂ m _ listed a w h2 (Nat.le_refl _) hs (fun i hi _ => hall i hi) hun (by omega) (hend a w hC h.2)
  | succ fuel ih =>
    intro r listed₁ listed a w hC hs hs1 hag hun hdn hr h
    by_cases hall : ∀ i, i < m → listed.getD i true = true
    · have hr0 : Region.ready .any ops₁ listed₁ = [] := by
        cases hc : Region.ready .any ops₁ listed₁ with
        | nil => rfl
        | cons i rs =>
          have hi : i ∈ Region.ready .any ops₁ listed₁ := by rw [hc]; simp
          obtain ⟨h3, o, ho, _⟩ := mem_ready.1 hi
          have hlt := (Array.getElem?_eq_some_iff.1 ho).1
          rw [← hag i (by omega), hall i (by omega)] at h3
          cases h3
      exact rest_ok hM l₂ m _ listed a w h2 (Nat.le_refl _) hs (fun i hi _ => hall i hi) hun (by omega) (hend a w hC (h.1 hr0))
    · obtain ⟨u, hum, hun0⟩ : ∃ i, i < m ∧ ¬ listed.getD i true = true := Classical.byContradiction fun hc => hall fun i hi => Classical.byContradiction fun hc2 => hc ⟨i, hi, hc2⟩
      have hjm : ∀ j ∈ Region.ready .any ops listed, j < m := by
        intro j hj
        refine Classical.byContradiction fun hge => ?_
        obtain ⟨h3, o, ho, hpre⟩ := mem_ready.1 hj
        have hjs := (Array.getElem?_eq_some_iff.1 ho).1
        by_cases hjm : j = m
        · subst hjm
          have hdown : ∀ d i, i + d = j → i < j → listed.getD i true = true := by
            intro d
            induction d using Nat.strongRecOn with
            | _ d ihd =>
              intro i hid hi
              obtain ⟨k, ok, hik, hkm, hok, e, he, hb, heq⟩ := hM.succ i hi
              by_cases hkj : k = j
              · subst hkj
                rw [ho] at hok
                cases hok
                have := hpre e he hb
                rw [heq, ← gd (by omega)] at this
                exact this
              · have := hdn k ok (by omega) hok (ihd (j - k) (by omega) k (by omega) (by omega)) e he hb
                rwa [heq] at this
          exact hun0 (hdown (j - u) u (by omega) hum)
        · obtain ⟨e, he, hb, heq⟩ := hM.chain j o (by omega) ho
          have h4 := hpre e he hb
          rw [heq, ← gd (by omega), hun (j - 1) (by omega) (by omega)] at h4
          cases h4
      have hj1 : ∀ j ∈ Region.ready .any ops listed, j ∈ Region.ready .any ops₁ listed₁ := by
        intro j hj
        have hlt := hjm j hj
        obtain ⟨h3, o, ho, hpre⟩ := mem_ready.1 hj
        exact mem_ready.2 ⟨by rw [← hag j hlt]; exact h3, o, by rw [h1 j hlt]; exact ho, fun e he hb => by
          have h4 := hM.back j o ho e he hb
          have h5 := hpre e he hb
          rw [← gd (by omega)] at h5 ⊢
          rw [← hag _ (by omega)]; exact h5⟩
      have hne : Region.ready .any ops listed ≠ [] := by
        obtain ⟨k, hk, hn, hlt⟩ := least (p := fun i => listed.getD i true = true) ⟨u, hum, hun0⟩
        obtain ⟨o, ho⟩ : ∃ o, ops[k]? = some o := ⟨_, Array.getElem?_eq_getElem (by omega)⟩
        have hk : k ∈ Region.ready .any ops listed := mem_ready.2 ⟨by simpa using hn, o, ho, fun e he hb => by
          have := hM.back k o ho e he hb
          rw [← gd (by omega)]; exact hlt _ this⟩
        intro hc; rw [hc] at hk; cases hk
      rw [show fuel + 1 + r = fuel + r + 1 by omega]
      refine ⟨fun hc => absurd hc hne, fun j hj => ?_⟩
      have hlt := hjm j hj
      have hq := h.2 j (hj1 j hj)
      obtain ⟨h3, o, ho, hpre⟩ := mem_ready.1 hj
      obtain ⟨hgd, hdf⟩ := hg j o hlt ho
      unfold qOpIn at hq
      unfold wpOpIn
      rw [h1 j hlt] at hq
      simp only [ho, Region.wanted, hgd, if_true] at hq ⊢
      refine wpIn_of_quiet' hdf hC (fun a' w' hC' h' => ih r (listed₁.setIfInBounds j true) (listed.setIfInBounds j true) a' w' hC' (by simpa using hs) (by simpa using hs1) (fun i hi => ?_) (fun i hi his => ?_) (fun i oi hi hoi hli e he hb => ?_) hr h') hq.1 hq.2
      · by_cases e : j = i
        · subst e; simp [show j < listed.size by omega, show j < listed₁.size by omega]
        · rw [getD_set_ne true e, getD_set_ne true e]; exact hag i hi
      · rw [getD_set_ne true (by omega)]; exact hun i hi his
      · have hback := hM.back i oi hoi e he hb
        by_cases e0 : j = e.on
        · rw [e0]; simp [show e.on < listed.size by omega]
        · rw [getD_set_ne true e0]
          by_cases e1 : j = i
          · subst e1
            rw [ho] at hoi
            cases hoi
            have := hpre e he hb
            rwa [← gd (by omega)] at this
          · rw [getD_set_ne true e1] at hli
            exact hdn i oi hi hoi hli e he hb
end

/-- the law: the first operations by one quiet walk, the others as a list -/
theorem wpIn_region_mixed {F : Fence} {n : Nat} {P : Program} {C : World → Prop} {Q : Exit → Act → World → Prop} {id : Nat} {l₁ l₂ l : List Oper} {a : Act} {w : World} (hm : P.follows .mixedOrders = true)
    (hl : l = l₁ ++ l₂) (hB : mixB l.toArray l₁.length = true) (hX : Region.lexB .any l₁.toArray = true) (hg : ∀ o ∈ l₁, o.guard = none ∧ ∀ c, o.op ≠ .defer c) (hC : C w.drew)
    (h : wpQuietIn F n P l₁.toArray C (fun a' => ∀ w', C w' → wpListIn F n P l.toArray Q l₂ a' w') l₁ a) : (Code.region id l.toArray true).wpIn F n P Q a w := by
  subst hl
  have hM := mix_of hB
  have hX0 := hX
  simp only [Region.lexB, Bool.and_eq_true] at hX
  have hq := wpAnyQIn_lex (F := F) (n := n) (P := P) (C := C) (Q := fun a' => ∀ w', C w' → wpListIn F n P (l₁ ++ l₂).toArray Q l₂ a' w') hX.1 l₁ 0 (Array.replicate l₁.toArray.size false) a (by simp) (by simpa using hX.2) h
  refine wpIn_region_any hm ?_
  have := fwd (F := F) (n := n) (P := P) (C := C) (Q := Q) (m := l₁.length) (ops := (l₁ ++ l₂).toArray) (ops₁ := l₁.toArray) (l₂ := l₂) hM (by simp)
    (fun i hi => by simp [List.getElem?_append_left hi])
    (fun i o hi ho => hg o (by simp [List.getElem?_append_left hi] at ho; exact List.mem_of_getElem? ho))
    (fun t => by rw [List.getElem?_toArray, List.getElem?_append_right (by omega)]; congr 1; omega)
    (fun a w hC h => h w hC) l₁.length l₂.length _ (Array.replicate (l₁ ++ l₂).toArray.size false) a w.drew hC (by simp) (by simp)
    (fun i hi => by simp [hi, show i < l₁.length + l₂.length by omega]) (fun i hi his => by simp at his; simp [his]) (fun i o hi ho hli => by simp [show i < l₁.length + l₂.length by omega] at hli) (Nat.le_refl _) hq
  simpa using this

/-- .. the first k operations ahead; the checks by the kernel -/
theorem wpIn_region_first {F : Fence} {n : Nat} {P : Program} (C : World → Prop) (k : Nat) {Q : Exit → Act → World → Prop} {id : Nat} {l : List Oper} {a : Act} {w : World} (hm : P.follows .mixedOrders = true)
    (hB : mixB l.toArray (l.take k).length = true) (hX : Region.lexB .any (l.take k).toArray = true) (hg : ((l.take k).all fun o => o.guard.isNone && match o.op with | .defer _ => false | _ => true) = true) (hC : C w.drew)
    (h : wpQuietIn F n P (l.take k).toArray C (fun a' => ∀ w', C w' → wpListIn F n P l.toArray Q (l.drop k) a' w') (l.take k) a) : (Code.region id l.toArray true).wpIn F n P Q a w :=
  wpIn_region_mixed (l₂ := l.drop k) hm (List.take_append_drop k l).symm hB hX (fun o ho => by
    have := List.all_eq_true.1 hg o ho
    simp only [Bool.and_eq_true, Option.isNone_iff_eq_none] at this
    refine ⟨this.1, fun c hc => ?_⟩
    have h2 := this.2
    rw [hc] at h2
    cases h2) hC h

end Mb
