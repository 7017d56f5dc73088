/- The merge in place, as plain arrays. No program. -/
import Derived.Sort.LotD2
import Derived.Sort.LotA
namespace Go.Proofs.Ytcbgnikbaepkaaa
open Go.Sort
variable {α : Type} [Inhabited α]

/-- Two ranges of n places exchanged. -/
def SwapR (d d' : Array α) (a b n : Nat) : Prop :=
  d'.size = d.size ∧ ∀ t, d'[t]! = if a ≤ t ∧ t < a + n then d[b + (t - a)]! else if b ≤ t ∧ t < b + n then d[a + (t - b)]! else d[t]!

theorem swapR_zero (d : Array α) (a b : Nat) : SwapR d d a b 0 := ⟨rfl, fun t => by rw [if_neg (by omega), if_neg (by omega)]⟩

theorem SwapR.step {d d' : Array α} {a b k : Nat} (h : SwapR d d' a b k) (hab : a + k < b) (hb : b + k < d.size) : SwapR d (swp d' (a + k) (b + k)) a b (k + 1) := by
  obtain ⟨h1, h2⟩ := h
  refine ⟨by rw [size_swp, h1], fun t => ?_⟩
  rw [swp_get d' (by omega) (by omega) t]
  by_cases e1 : t = b + k
  · rw [if_pos e1, h2 (a + k), if_neg (by omega), if_neg (by omega), if_neg (by omega), if_pos (by omega)]
    congr 1; omega
  · rw [if_neg e1]
    by_cases e2 : t = a + k
    · rw [if_pos e2, h2 (b + k), if_neg (by omega), if_neg (by omega), if_pos (by omega)]
      congr 1; omega
    · rw [if_neg e2, h2 t]
      by_cases e3 : a ≤ t ∧ t < a + k
      · rw [if_pos e3, if_pos (by omega)]
      · rw [if_neg e3]
        by_cases e4 : b ≤ t ∧ t < b + k
        · rw [if_pos e4, if_neg (by omega), if_pos (by omega)]
        · rw [if_neg e4, if_neg (by omega), if_neg (by omega)]

/-- [a, m) and [m, b) have changed places. -/
def Rot (d d' : Array α) (a m b : Nat) : Prop :=
  d'.size = d.size ∧ ∀ t, d'[t]! = if a ≤ t ∧ t < a + (b - m) then d[m + (t - a)]! else if a + (b - m) ≤ t ∧ t < b then d[t - (b - m)]! else d[t]!

theorem rot_eq {d d' : Array α} {m i : Nat} (h : SwapR d d' (m - i) m i) (hi : i ≤ m) : Rot d d' (m - i) m (m + i) := by
  refine ⟨h.1, fun t => ?_⟩
  rw [h.2 t]
  by_cases e1 : m - i ≤ t ∧ t < m - i + i
  · rw [if_pos e1, if_pos (by omega)]
  · rw [if_neg e1]
    by_cases e2 : m ≤ t ∧ t < m + i
    · rw [if_pos e2, if_neg (by omega), if_pos (by omega)]
      congr 1; omega
    · rw [if_neg e2, if_neg (by omega), if_neg (by omega)]

theorem rot_gt {d d1 d' : Array α} {m i j : Nat} (h1 : SwapR d d1 (m - i) m j) (hij : j < i) (hi : i ≤ m) (h2 : Rot d1 d' (m - (i - j)) m (m + j)) : Rot d d' (m - i) m (m + j) := by
  refine ⟨h2.1.trans h1.1, fun t => ?_⟩
  rw [h2.2 t]
  by_cases e1 : m - (i - j) ≤ t ∧ t < m - (i - j) + (m + j - m)
  · rw [if_pos e1, h1.2, if_neg (by omega), if_pos (by omega)]
    by_cases e2 : m - i ≤ t ∧ t < m - i + (m + j - m)
    · omega
    · rw [if_neg e2, if_pos (by omega)]
      congr 1; omega
  · rw [if_neg e1]
    by_cases e3 : m - (i - j) + (m + j - m) ≤ t ∧ t < m + j
    · rw [if_pos e3, h1.2, if_neg (by omega), if_neg (by omega), if_neg (by omega), if_pos (by omega)]
    · rw [if_neg e3, h1.2]
      by_cases e4 : m - i ≤ t ∧ t < m - i + j
      · rw [if_pos e4, if_pos (by omega)]
      · rw [if_neg e4, if_neg (by omega), if_neg (by omega), if_neg (by omega)]

theorem rot_lt {d d1 d' : Array α} {m i j : Nat} (h1 : SwapR d d1 (m - i) (m + j - i) i) (hij : i < j) (hi : i ≤ m) (h2 : Rot d1 d' (m - i) m (m + (j - i))) : Rot d d' (m - i) m (m + j) := by
  refine ⟨h2.1.trans h1.1, fun t => ?_⟩
  rw [h2.2 t]
  by_cases e1 : m - i ≤ t ∧ t < m - i + (m + (j - i) - m)
  · rw [if_pos e1, if_pos (by omega), h1.2, if_neg (by omega), if_neg (by omega)]
  · rw [if_neg e1]
    by_cases e3 : m - i + (m + (j - i) - m) ≤ t ∧ t < m + (j - i)
    · rw [if_pos e3, h1.2]
      by_cases e4 : m - i ≤ t - (m + (j - i) - m) ∧ t - (m + (j - i) - m) < m - i + i
      · rw [if_pos e4, if_pos (by omega)]
        congr 1; omega
      · omega
    · rw [if_neg e3, h1.2]
      by_cases e4 : m - i ≤ t ∧ t < m - i + i
      · omega
      · rw [if_neg e4]
        by_cases e5 : m + j - i ≤ t ∧ t < m + j - i + i
        · rw [if_pos e5, if_neg (by omega), if_pos (by omega)]
          congr 1; omega
        · rw [if_neg e5, if_neg (by omega), if_neg (by omega)]

/-- The first one moved up to e. -/
def Up (d d' : Array α) (a e : Nat) : Prop := d'.size = d.size ∧ ∀ t, d'[t]! = if a ≤ t ∧ t < e then d[t + 1]! else if t = e then d[a]! else d[t]!

theorem up_zero (d : Array α) (a : Nat) : Up d d a a := ⟨rfl, fun t => by
  rw [if_neg (by omega)]
  by_cases e : t = a
  · rw [if_pos e, e]
  · rw [if_neg e]⟩

theorem Up.step {d d' : Array α} {a k : Nat} (h : Up d d' a k) (hak : a ≤ k) (hk : k + 1 < d.size) : Up d (swp d' k (k + 1)) a (k + 1) := by
  obtain ⟨h1, h2⟩ := h
  refine ⟨by rw [size_swp, h1], fun t => ?_⟩
  rw [swp_get d' (by omega) (by omega) t]
  by_cases e1 : t = k + 1
  · rw [if_pos e1, h2 k, if_neg (by omega), if_pos rfl, if_neg (by omega), if_pos e1]
  · rw [if_neg e1]
    by_cases e2 : t = k
    · rw [if_pos e2, h2 (k + 1), if_neg (by omega), if_neg (by omega), if_pos (by omega), e2]
    · rw [if_neg e2, h2 t]
      by_cases e3 : a ≤ t ∧ t < k
      · rw [if_pos e3, if_pos (by omega)]
      · rw [if_neg e3, if_neg e2, if_neg (by omega), if_neg e1]

/-- The last one moved down to e. -/
def Down (d d' : Array α) (e m : Nat) : Prop := d'.size = d.size ∧ ∀ t, d'[t]! = if e < t ∧ t ≤ m then d[t - 1]! else if t = e then d[m]! else d[t]!

theorem down_zero (d : Array α) (m : Nat) : Down d d m m := ⟨rfl, fun t => by
  rw [if_neg (by omega)]
  by_cases e : t = m
  · rw [if_pos e, e]
  · rw [if_neg e]⟩

theorem Down.step {d d' : Array α} {m k : Nat} (h : Down d d' (k + 1) m) (hkm : k + 1 ≤ m) (hm : m < d.size) : Down d (swp d' (k + 1) k) k m := by
  obtain ⟨h1, h2⟩ := h
  refine ⟨by rw [size_swp, h1], fun t => ?_⟩
  rw [swp_get d' (by omega) (by omega) t]
  by_cases e1 : t = k
  · rw [if_pos e1, h2 (k + 1), if_neg (by omega), if_pos rfl, if_neg (by omega), if_pos e1]
  · rw [if_neg e1]
    by_cases e2 : t = k + 1
    · rw [if_pos e2, h2 k, if_neg (by omega), if_neg (by omega), if_pos (by omega), e2]
      rfl
    · rw [if_neg e2, h2 t]
      by_cases e3 : k + 1 < t ∧ t ≤ m
      · rw [if_pos e3, if_pos (by omega)]
      · rw [if_neg e3, if_neg e2, if_neg (by omega), if_neg e1]

variable {lt : α → α → Bool}

theorem sorted_le (hS : SWO lt) {a b : Nat} {d : Array α} (h : SortedIn lt a b d) {i j : Nat} (hi : a ≤ i) (hij : i ≤ j) (hj : j < b) : lt d[j]! d[i]! = false := by
  rcases Nat.lt_or_ge i j with h1 | h1
  · exact h i j hi h1 hj
  · obtain rfl : i = j := by omega
    exact hS.irrefl _

theorem up_sorted (hS : SWO lt) {d d' : Array α} {a i b : Nat} (hs : SortedIn lt (a + 1) b d) (hai : a + 1 ≤ i) (hib : i ≤ b) (h1 : ∀ t, a + 1 ≤ t → t < i → lt d[t]! d[a]! = true) (h2 : ∀ t, i ≤ t → t < b → lt d[t]! d[a]! = false) (hu : Up d d' a (i - 1)) : SortedIn lt a b d' := by
  intro p q hp hpq hq
  rw [hu.2 p, hu.2 q]
  by_cases e1 : a ≤ q ∧ q < i - 1
  · rw [if_pos e1, if_pos (by omega)]
    exact hs _ _ (by omega) (by omega) (by omega)
  · rw [if_neg e1]
    by_cases e2 : q = i - 1
    · rw [if_pos e2, if_pos (by omega)]
      exact SWO.asymm hS (h1 _ (by omega) (by omega))
    · rw [if_neg e2]
      by_cases e3 : a ≤ p ∧ p < i - 1
      · rw [if_pos e3]
        exact hs _ _ (by omega) (by omega) (by omega)
      · rw [if_neg e3]
        by_cases e4 : p = i - 1
        · rw [if_pos e4]
          exact h2 _ (by omega) (by omega)
        · rw [if_neg e4]
          exact hs _ _ (by omega) (by omega) (by omega)

theorem down_sorted (hS : SWO lt) {d d' : Array α} {a i m : Nat} (hs : SortedIn lt a m d) (hai : a ≤ i) (him : i ≤ m) (h1 : ∀ t, a ≤ t → t < i → lt d[m]! d[t]! = false) (h2 : ∀ t, i ≤ t → t < m → lt d[m]! d[t]! = true) (hu : Down d d' i m) : SortedIn lt a (m + 1) d' := by
  intro p q hp hpq hq
  rw [hu.2 p, hu.2 q]
  by_cases e1 : i < q ∧ q ≤ m
  · rw [if_pos e1]
    by_cases e2 : i < p ∧ p ≤ m
    · rw [if_pos e2]
      exact hs _ _ (by omega) (by omega) (by omega)
    · rw [if_neg e2]
      by_cases e3 : p = i
      · rw [if_pos e3]
        exact SWO.asymm hS (h2 _ (by omega) (by omega))
      · rw [if_neg e3]
        exact hs _ _ (by omega) (by omega) (by omega)
  · rw [if_neg e1]
    by_cases e2 : q = i
    · rw [if_pos e2, if_neg (by omega), if_neg (by omega)]
      exact h1 _ (by omega) (by omega)
    · rw [if_neg e2, if_neg (by omega), if_neg (by omega)]
      exact hs _ _ (by omega) (by omega) (by omega)

/-- All on the left are not above all on the right. -/
def Cross (lt : α → α → Bool) (a mid b : Nat) (d : Array α) : Prop := ∀ p q, a ≤ p → p < mid → mid ≤ q → q < b → lt d[q]! d[p]! = false

theorem glue {a mid b : Nat} {d : Array α} (h1 : SortedIn lt a mid d) (h2 : SortedIn lt mid b d) (h3 : Cross lt a mid b d) : SortedIn lt a b d := by
  intro p q hp hpq hq
  rcases Nat.lt_or_ge q mid with h | h
  · exact h1 p q hp hpq h
  · rcases Nat.lt_or_ge p mid with h' | h'
    · exact h3 p q hp h' h hq
    · exact h2 p q h' hpq hq

/-- Behind the rotation. -/
theorem split_rot (hS : SWO lt) {d d' : Array α} {a m b mid s e : Nat} (h1 : SortedIn lt a m d) (h2 : SortedIn lt m b d) (has : a ≤ s) (hsm : s ≤ m) (hme : m ≤ e) (heb : e ≤ b) (hmid : mid = s + (e - m))
    (hlo : a < s → e < b → lt d[e]! d[s - 1]! = false) (hhi : s < m → m < e → lt d[e - 1]! d[s]! = true) (hr : Rot d d' s m e) :
    SortedIn lt a s d' ∧ SortedIn lt s mid d' ∧ SortedIn lt mid e d' ∧ SortedIn lt e b d' ∧ Cross lt a mid b d' := by
  subst hmid
  have src : ∀ t, d'[t]! = _ := hr.2
  refine ⟨?_, ?_, ?_, ?_, ?_⟩
  · intro p q hp hpq hq
    rw [src p, src q, if_neg (by omega), if_neg (by omega), if_neg (by omega), if_neg (by omega)]
    exact h1 p q hp hpq (by omega)
  · intro p q hp hpq hq
    rw [src p, src q, if_pos (by omega), if_pos (by omega)]
    exact h2 _ _ (by omega) (by omega) (by omega)
  · intro p q hp hpq hq
    rw [src p, src q, if_neg (by omega), if_pos (by omega), if_neg (by omega), if_pos (by omega)]
    exact h1 _ _ (by omega) (by omega) (by omega)
  · intro p q hp hpq hq
    rw [src p, src q, if_neg (by omega), if_neg (by omega), if_neg (by omega), if_neg (by omega)]
    exact h2 p q (by omega) hpq hq
  · intro p q hp hpm hq hqb
    rw [src p, src q]
    by_cases e1 : s ≤ p ∧ p < s + (e - m)
    · rw [if_pos e1, if_neg (by omega)]
      by_cases e2 : s + (e - m) ≤ q ∧ q < e
      · rw [if_pos e2]
        have x1 := hhi (by omega) (by omega)
        have y1 : lt d[q - (e - m)]! d[s]! = false := sorted_le hS h1 (by omega) (by omega) (by omega)
        have y2 : lt d[e - 1]! d[m + (p - s)]! = false := sorted_le hS h2 (by omega) (by omega) (by omega)
        exact hS.ntrans _ _ _ y1 (hS.ntrans _ _ _ (SWO.asymm hS x1) y2)
      · rw [if_neg e2]
        exact h2 _ _ (by omega) (by omega) (by omega)
    · rw [if_neg e1, if_neg (show ¬ (s + (e - m) ≤ p ∧ p < e) by omega)]
      by_cases e2 : s ≤ q ∧ q < s + (e - m)
      · omega
      · rw [if_neg e2]
        by_cases e3 : s + (e - m) ≤ q ∧ q < e
        · rw [if_pos e3]
          exact h1 _ _ (by omega) (by omega) (by omega)
        · rw [if_neg e3]
          have x1 := hlo (by omega) (by omega)
          have y1 : lt d[q]! d[e]! = false := sorted_le hS h2 (by omega) (by omega) (by omega)
          have y2 : lt d[s - 1]! d[p]! = false := sorted_le hS h1 (by omega) (by omega) (by omega)
          exact hS.ntrans _ _ _ y1 (hS.ntrans _ _ _ x1 y2)

theorem Cross.perm {a mid b : Nat} {d d' : Array α} (h : Cross lt a mid b d) (hb : mid ≤ d.size) (hp : PermIn a mid d d') : Cross lt a mid b d' := by
  intro p q hp1 hp2 hq1 hq2
  rw [hp.2.1 q (.inr hq1)]
  exact permIn_all d d' a mid (fun x => lt d[q]! x = false) hb hp (fun i h1 h2 => h i q h1 h2 hq1 hq2) p hp1 hp2

theorem Cross.perm2 {a mid b : Nat} {d d' : Array α} (h : Cross lt a mid b d) (hb : b ≤ d.size) (hp : PermIn mid b d d') : Cross lt a mid b d' := by
  intro p q hp1 hp2 hq1 hq2
  rw [hp.2.1 p (.inl hp2)]
  exact permIn_all d d' mid b (fun x => lt x d[p]! = false) hb hp (fun i h1 h2 => h p i hp1 hp2 h1 h2) q hq1 hq2

theorem sorted_out {a b c e : Nat} {d d' : Array α} (h : SortedIn lt a b d) (hp : PermIn c e d d') (ho : b ≤ c ∨ e ≤ a) : SortedIn lt a b d' := by
  intro i j h1 h2 h3
  rw [hp.2.1 i (by omega), hp.2.1 j (by omega)]
  exact h i j h1 h2 h3

/-- The blocks of bs places from a on rise, each. -/
def Blocks (lt : α → α → Bool) (bs a n : Nat) (d : Array α) : Prop := ∀ k, SortedIn lt (a + k * bs) (min (a + k * bs + bs) n) d

/-- The blocks that end up to a rise, each. -/
def Front (lt : α → α → Bool) (bs a : Nat) (d : Array α) : Prop := ∀ k, k * bs + bs ≤ a → SortedIn lt (k * bs) (k * bs + bs) d

theorem front_zero (bs : Nat) (hb : 0 < bs) (d : Array α) : Front lt bs 0 d := fun k h => by omega

theorem Front.more {bs q : Nat} {d d' : Array α} (h : Front lt bs (q * bs) d) (hp : PermIn (q * bs) (q * bs + bs) d d') (hs : SortedIn lt (q * bs) (q * bs + bs) d') : Front lt bs ((q + 1) * bs) d' := by
  intro k hk
  rcases Nat.lt_or_ge k q with h1 | h1
  · have h2 : (k + 1) * bs ≤ q * bs := Nat.mul_le_mul_right bs h1
    rw [Nat.add_mul, Nat.one_mul] at h2
    exact sorted_out (h k h2) hp (.inl h2)
  · rcases Nat.eq_or_lt_of_le h1 with rfl | h2
    · exact hs
    · have h3 : (q + 1) * bs ≤ k * bs := Nat.mul_le_mul_right bs h2
      intro i j hi hij hj
      omega

theorem Front.all {bs q n : Nat} {d d' : Array α} (h : Front lt bs (q * bs) d) (hp : PermIn (q * bs) n d d') (hs : SortedIn lt (q * bs) n d') (hn : n < q * bs + bs) : Blocks lt bs 0 n d' := by
  intro k
  rw [Nat.zero_add]
  rcases Nat.lt_or_ge k q with h1 | h1
  · have h2 : (k + 1) * bs ≤ q * bs := Nat.mul_le_mul_right bs h1
    rw [Nat.add_mul, Nat.one_mul] at h2
    have := sorted_out (h k h2) hp (.inl h2)
    intro i j hi hij hj
    exact this i j hi hij (by omega)
  · have h3 : q * bs ≤ k * bs := Nat.mul_le_mul_right bs h1
    intro i j hi hij hj
    exact hs i j (by omega) hij (by omega)

theorem Blocks.next {bs a n : Nat} {d d' : Array α} (h : Blocks lt bs a n d) (hp : PermIn a (a + 2 * bs) d d') : Blocks lt bs (a + 2 * bs) n d' := by
  intro k
  have := h (k + 2)
  have e : a + (k + 2) * bs = a + 2 * bs + k * bs := by rw [Nat.add_mul]; omega
  rw [e] at this
  exact sorted_out this hp (.inr (by omega))

theorem Blocks.first {bs a n : Nat} {d : Array α} (h : Blocks lt bs a n d) (hn : a + bs ≤ n) : SortedIn lt a (a + bs) d := by
  have := h 0
  rw [Nat.zero_mul, Nat.add_zero, Nat.min_eq_left hn] at this
  exact this

theorem Blocks.second {bs a n : Nat} {d : Array α} (h : Blocks lt bs a n d) {e : Nat} (he : e = min (a + bs + bs) n) : SortedIn lt (a + bs) e d := by
  have := h 1
  rw [Nat.one_mul] at this
  rw [he]; exact this

theorem Blocks.last {bs a n : Nat} {d : Array α} (h : Blocks lt bs a n d) (hn : n ≤ a + bs) : SortedIn lt a n d := by
  have := h 0
  rw [Nat.zero_mul, Nat.add_zero, Nat.min_eq_right hn] at this
  exact this

end Go.Proofs.Ytcbgnikbaepkaaa
