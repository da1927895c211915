/- Pure: four points each are coplanar, in whatever order they are asked. -/
import Derived.Test.YtbemnlmgemafkaaGreatDoorGeo
namespace Mb

/-- an alternating form of four indices that is 0 at falling indices is 0 everywhere -/
theorem alt4 {f : Nat → Nat → Nat → Nat → Int} {n : Nat} (h1 : ∀ i j k m, f j i k m = - f i j k m) (h2 : ∀ i j k m, f i k j m = - f i j k m) (h3 : ∀ i j k m, f i j m k = - f i j k m)
    (hz : ∀ i j k m, i < n → j < i → k < j → m < k → f i j k m = 0) : ∀ i j k m, i < n → j < n → k < n → m < n → f i j k m = 0 := by
  have e1 : ∀ i k m, f i i k m = 0 := fun i k m => by have := h1 i i k m; omega
  have e2 : ∀ i j m, f i j j m = 0 := fun i j m => by have := h2 i j j m; omega
  have e3 : ∀ i j k, f i j k k = 0 := fun i j k => by have := h3 i j k k; omega
  have A : ∀ i j k m, i < n → j < n → k < j → m < k → f i j k m = 0 := by
    intro i j k m hi hj hk hm
    rcases Nat.lt_trichotomy i j with h | rfl | h
    · have s1 := h1 i j k m
      rcases Nat.lt_trichotomy i k with h' | rfl | h'
      · have s2 := h2 j i k m
        rcases Nat.lt_trichotomy i m with h'' | rfl | h''
        · have s3 := h3 j k i m
          have := hz j k m i hj hk hm h''
          omega
        · have := e3 j k i; omega
        · have := hz j k i m hj hk h' h''; omega
      · have := e2 j i m; omega
      · have := hz j i k m hj h h' hm; omega
    · exact e1 i k m
    · exact hz i j k m hi h hk hm
  have B : ∀ i j k m, i < n → j < n → k < n → m < k → f i j k m = 0 := by
    intro i j k m hi hj hk hm
    rcases Nat.lt_trichotomy j k with h | rfl | h
    · have s2 := h2 i j k m
      rcases Nat.lt_trichotomy j m with h' | rfl | h'
      · have s3 := h3 i k j m
        have := A i k m j hi hk hm h'; omega
      · have := e3 i k j; omega
      · have := A i k j m hi hk h h'; omega
    · exact e2 i j m
    · exact A i j k m hi hj h hm
  intro i j k m hi hj hk hm
  rcases Nat.lt_trichotomy m k with h | rfl | h
  · exact B i j k m hi hj hk h
  · exact e3 i j m
  · have s3 := h3 i j k m
    have := B i j m k hi hj hm h; omega

/-- an alternating form of three indices that is 0 at falling indices is 0 everywhere -/
theorem alt3 {f : Nat → Nat → Nat → Int} {n : Nat} (h1 : ∀ i j k, f j i k = - f i j k) (h2 : ∀ i j k, f i k j = - f i j k)
    (hz : ∀ i j k, i < n → j < i → k < j → f i j k = 0) : ∀ i j k, i < n → j < n → k < n → f i j k = 0 := by
  have e1 : ∀ i k, f i i k = 0 := fun i k => by have := h1 i i k; omega
  have e2 : ∀ i j, f i j j = 0 := fun i j => by have := h2 i j j; omega
  have A : ∀ i j k, i < n → j < n → k < j → f i j k = 0 := by
    intro i j k hi hj hk
    rcases Nat.lt_trichotomy i j with h | rfl | h
    · have s1 := h1 i j k
      rcases Nat.lt_trichotomy i k with h' | rfl | h'
      · have s2 := h2 j i k
        have := hz j k i hj hk h'; omega
      · have := e2 j i; omega
      · have := hz j i k hj h h'; omega
    · exact e1 i k
    · exact hz i j k hi h hk
  intro i j k hi hj hk
  rcases Nat.lt_trichotomy k j with h | rfl | h
  · exact A i j k hi hj h
  · exact e2 i k
  · have s2 := h2 i j k
    have := A i k j hi hk h; omega

end Mb
