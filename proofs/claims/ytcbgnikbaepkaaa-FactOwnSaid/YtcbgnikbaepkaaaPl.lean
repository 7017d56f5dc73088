/- The bag that rows stand for. No program. -/
import Derived.Test.YtcbgnikbaepkaaaX
namespace Go.Proofs.Ytcbgnikbaepkaaa

abbrev Ps := List (Fa × Int)

/-- A number as a uint64. -/
def wu (n : Int) : Int := IntKind.u64.wrap n

theorem wu_eq (n : Int) : wu n = n % 18446744073709551616 := by
  unfold wu IntKind.wrap
  simp [IntKind.bits, IntKind.signed]

theorem wu_l (a b : Int) : wu (wu a + b) = wu (a + b) := by simp only [wu_eq]; omega
theorem wu_r (a b : Int) : wu (a + wu b) = wu (a + b) := by simp only [wu_eq]; omega
theorem wu_wu (a : Int) : wu (wu a) = wu a := by simp only [wu_eq]; omega

/-- How often the fact stands in the rows. -/
def cnt (f : Fa) : Ps → Int
  | [] => 0
  | (g, n) :: r => (if cmpF g f = 0 then n else 0) + cnt f r

def sumN : Ps → Int
  | [] => 0
  | (_, n) :: r => n + sumN r

theorem cnt_append (f : Fa) (a b : Ps) : cnt f (a ++ b) = cnt f a + cnt f b := by
  induction a with
  | nil => simp [cnt]
  | cons x a ih => obtain ⟨g, n⟩ := x; simp only [List.cons_append, cnt, ih]; omega

theorem sumN_append (a b : Ps) : sumN (a ++ b) = sumN a + sumN b := by
  induction a with
  | nil => simp [sumN]
  | cons x a ih => obtain ⟨g, n⟩ := x; simp only [List.cons_append, sumN, ih]; omega

theorem cnt_perm (f : Fa) {a b : Ps} (h : a.Perm b) : cnt f a = cnt f b := by
  induction h with
  | nil => rfl
  | cons x _ ih => obtain ⟨g, n⟩ := x; simp only [cnt, ih]
  | swap x y l => obtain ⟨g, n⟩ := x; obtain ⟨g', n'⟩ := y; simp only [cnt]; omega
  | trans _ _ ih1 ih2 => exact ih1.trans ih2

theorem sumN_perm {a b : Ps} (h : a.Perm b) : sumN a = sumN b := by
  induction h with
  | nil => rfl
  | cons x _ ih => obtain ⟨g, n⟩ := x; simp only [sumN, ih]
  | swap x y l => obtain ⟨g, n⟩ := x; obtain ⟨g', n'⟩ := y; simp only [sumN]; omega
  | trans _ _ ih1 ih2 => exact ih1.trans ih2

/-- Each number is a uint64. -/
def Fit (l : Ps) : Prop := ∀ p ∈ l, wu p.2 = p.2

/-- Facts rise. -/
def Rise (l : Ps) : Prop := l.Pairwise fun p q => cmpF p.1 q.1 < 0

theorem cmpF_refl (f : Fa) : cmpF f f = 0 := (isCmp_F.eq f f).2 rfl
theorem cmpF_eq {f g : Fa} (h : cmpF f g = 0) : f = g := (isCmp_F.eq f g).1 h
theorem cmpF_anti (f g : Fa) : cmpF g f = - cmpF f g := isCmp_F.anti f g

theorem cnt_none {f : Fa} {l : Ps} (h : ∀ p ∈ l, cmpF p.1 f ≠ 0) : cnt f l = 0 := by
  induction l with
  | nil => rfl
  | cons x l ih =>
    obtain ⟨g, n⟩ := x
    have h0 : cmpF g f ≠ 0 := h (g, n) List.mem_cons_self
    simp only [cnt, if_neg h0, ih fun p hp => h p (List.mem_cons_of_mem _ hp)]
    rfl

theorem Rise.cnt {l : Ps} (h : Rise l) {p : Fa × Int} (hp : p ∈ l) : cnt p.1 l = p.2 := by
  induction l with
  | nil => cases hp
  | cons x l ih =>
    obtain ⟨g, n⟩ := x
    obtain ⟨h1, h2⟩ := List.pairwise_cons.1 h
    rcases List.mem_cons.1 hp with rfl | hp
    · simp only [Ytcbgnikbaepkaaa.cnt, if_pos (cmpF_refl g)]
      rw [cnt_none fun q hq => by have := h1 q hq; have := cmpF_anti g q.1; simp only at *; omega]
      omega
    · have := h1 p hp
      simp only [Ytcbgnikbaepkaaa.cnt]
      rw [if_neg (by simp only at this; omega), ih h2 hp]
      omega

theorem Rise.none {l : Ps} {f : Fa} (hf : ∀ p ∈ l, p.1 ≠ f) : Ytcbgnikbaepkaaa.cnt f l = 0 := cnt_none fun p hp e => hf p hp (cmpF_eq e)

/-- What stands in rows that rise, each a uint64 and not 0. -/
theorem rise_mem {l : Ps} (h : Rise l) (hfit : Fit l) (hnz : ∀ p ∈ l, p.2 ≠ 0) (f : Fa) (n : Int) : (f, n) ∈ l ↔ wu (cnt f l) = n ∧ n ≠ 0 := by
  constructor
  · intro hm
    rw [h.cnt hm]
    exact ⟨hfit _ hm, hnz _ hm⟩
  · rintro ⟨h1, h2⟩
    by_cases hex : ∃ p ∈ l, p.1 = f
    · obtain ⟨p, hp, rfl⟩ := hex
      rw [h.cnt hp, hfit p hp] at h1
      rw [← h1]; exact hp
    · rw [Rise.none fun p hp e => hex ⟨p, hp, e⟩] at h1
      exact absurd h1.symm (by simpa [wu_eq] using h2)

theorem rise_ext : ∀ {a b : Ps}, Rise a → Rise b → (∀ p, p ∈ a ↔ p ∈ b) → a = b := by
  intro a
  induction a with
  | nil =>
    intro b _ _ h
    cases b with
    | nil => rfl
    | cons y b => exact absurd ((h y).2 List.mem_cons_self) (by simp)
  | cons x a ih =>
    intro b ha hb h
    cases b with
    | nil => exact absurd ((h x).1 List.mem_cons_self) (by simp)
    | cons y b =>
      obtain ⟨a1, a2⟩ := List.pairwise_cons.1 ha
      obtain ⟨b1, b2⟩ := List.pairwise_cons.1 hb
      have hxy : x = y := by
        rcases List.mem_cons.1 ((h x).1 List.mem_cons_self) with e | e
        · exact e
        · rcases List.mem_cons.1 ((h y).2 List.mem_cons_self) with e2 | e2
          · exact e2.symm
          · have := b1 x e
            have := a1 y e2
            have := cmpF_anti x.1 y.1
            omega
      subst hxy
      congr 1
      refine ih a2 b2 fun p => ⟨fun hp => ?_, fun hp => ?_⟩
      · rcases List.mem_cons.1 ((h p).1 (List.mem_cons_of_mem _ hp)) with e | e
        · subst e
          have := a1 p hp
          have := cmpF_refl p.1
          omega
        · exact e
      · rcases List.mem_cons.1 ((h p).2 (List.mem_cons_of_mem _ hp)) with e | e
        · subst e
          have := b1 p hp
          have := cmpF_refl p.1
          omega
        · exact e

/-- Two such rows of the same facts, each as often, are one. -/
theorem rise_unique {a b : Ps} (ha : Rise a) (hb : Rise b) (fa : Fit a) (fb : Fit b) (na : ∀ p ∈ a, p.2 ≠ 0) (nb : ∀ p ∈ b, p.2 ≠ 0) (h : ∀ f, wu (cnt f a) = wu (cnt f b)) : a = b :=
  rise_ext ha hb fun p => by
    obtain ⟨f, n⟩ := p
    rw [rise_mem ha fa na, rise_mem hb fb nb, h f]

def nzP (l : Ps) : Ps := l.filter fun q => !(q.2 == 0)

theorem cnt_nz (f : Fa) (l : Ps) : cnt f (nzP l) = cnt f l := by
  induction l with
  | nil => rfl
  | cons x l ih =>
    obtain ⟨g, n⟩ := x
    unfold nzP at *
    by_cases hn : n = 0
    · subst hn; simp [cnt, ih]
    · have : (n == 0) = false := by simpa using hn
      rw [List.filter_cons_of_pos (by simp [this])]
      simp only [cnt, ih]

theorem sumN_nz (l : Ps) : sumN (nzP l) = sumN l := by
  induction l with
  | nil => rfl
  | cons x l ih =>
    obtain ⟨g, n⟩ := x
    unfold nzP at *
    by_cases hn : n = 0
    · subst hn; simp [sumN, ih]
    · have : (n == 0) = false := by simpa using hn
      rw [List.filter_cons_of_pos (by simp [this])]
      simp only [sumN, ih]

theorem Rise.nz {l : Ps} (h : Rise l) : Rise (nzP l) := List.Pairwise.filter _ h
theorem Fit.nz {l : Ps} (h : Fit l) : Fit (nzP l) := fun p hp => h p (List.mem_filter.1 hp).1
theorem nz_nz (l : Ps) : ∀ p ∈ nzP l, p.2 ≠ 0 := fun p hp => by have := (List.mem_filter.1 hp).2; simpa using this

/-! The merge of rows that ascend. -/
def AscP (s : Ps) : Prop := ∀ i j, (hi : i < j) → (hj : j < s.length) → cmpF s[i].1 s[j].1 ≤ 0

theorem ascP_pairwise {s : Ps} (h : AscP s) : s.Pairwise fun p q => cmpF p.1 q.1 ≤ 0 := by
  rw [List.pairwise_iff_getElem]
  intro i j hi hj hij
  exact h i j hij hj

theorem cmpF_le_trans {a b c : Fa} (h1 : cmpF a b ≤ 0) (h2 : cmpF b c ≤ 0) : cmpF a c ≤ 0 := by
  by_cases e1 : cmpF a b = 0
  · rw [cmpF_eq e1]; exact h2
  · by_cases e2 : cmpF b c = 0
    · rw [← cmpF_eq e2]; exact h1
    · exact Int.le_of_lt (isCmp_F.trans a b c (by omega) (by omega))

theorem cmpF_lt_le {a b c : Fa} (h1 : cmpF a b < 0) (h2 : cmpF b c ≤ 0) : cmpF a c < 0 := by
  by_cases e2 : cmpF b c = 0
  · rw [← cmpF_eq e2]; exact h1
  · exact isCmp_F.trans a b c h1 (by omega)

/-- The merge of rows that ascend: it rises; the same facts as often; its last fact is theirs. -/
theorem merge_inv (s : Ps) (hs : s.Pairwise fun p q => cmpF p.1 q.1 ≤ 0) (hf : Fit s) :
    Rise (mergeP s) ∧ Fit (mergeP s) ∧ (∀ f, wu (cnt f (mergeP s)) = wu (cnt f s)) ∧ wu (sumN (mergeP s)) = wu (sumN s) ∧ (∀ p ∈ mergeP s, ∃ q ∈ s, q.1 = p.1) ∧ ∀ t : Fa × Int, s.getLast? = some t → ∃ acc n, mergeP s = acc ++ [(t.1, n)] := by
  induction hlen : s.length generalizing s with
  | zero =>
    obtain rfl : s = [] := List.eq_nil_of_length_eq_zero hlen
    exact ⟨List.Pairwise.nil, (fun p hp => by cases hp), fun f => rfl, rfl, (fun p hp => by cases hp), (fun t ht => by cases ht)⟩
  | succ k ih =>
    have hne : s ≠ [] := by intro e; subst e; simp at hlen
    obtain ⟨l, r, rfl⟩ : ∃ l r, s = l ++ [r] := ⟨s.dropLast, s.getLast hne, (List.dropLast_concat_getLast hne).symm⟩
    obtain ⟨p1, p2, p3⟩ := List.pairwise_append.1 hs
    obtain ⟨i1, i2, i3, i4, i5, i6⟩ := ih l p1 (fun p hp => hf p (List.mem_append_left _ hp)) (by simpa using hlen)
    rw [mergeP_snoc]
    have hr : wu r.2 = r.2 := hf r (List.mem_append_right _ (List.mem_singleton.2 rfl))
    have more : mergeStep (mergeP l) r = mergeP l ++ [r] → (∀ p ∈ mergeP l, cmpF p.1 r.1 < 0) →
        Rise (mergeStep (mergeP l) r) ∧ Fit (mergeStep (mergeP l) r) ∧ (∀ f, wu (cnt f (mergeStep (mergeP l) r)) = wu (cnt f (l ++ [r]))) ∧ wu (sumN (mergeStep (mergeP l) r)) = wu (sumN (l ++ [r])) ∧ (∀ p ∈ mergeStep (mergeP l) r, ∃ q ∈ l ++ [r], q.1 = p.1) ∧ ∀ t : Fa × Int, (l ++ [r]).getLast? = some t → ∃ acc n, mergeStep (mergeP l) r = acc ++ [(t.1, n)] := by
      intro hm hlt
      rw [hm]
      refine ⟨List.pairwise_append.2 ⟨i1, List.pairwise_singleton _ _, fun p hp q hq => by rw [List.mem_singleton.1 hq]; exact hlt p hp⟩, fun p hp => ?_, fun f => ?_, ?_, fun p hp => ?_, fun t ht => ?_⟩
      · rcases List.mem_append.1 hp with hp | hp
        · exact i2 p hp
        · rw [List.mem_singleton.1 hp]; exact hr
      · rw [cnt_append, cnt_append, ← wu_l, i3 f, wu_l]
      · rw [sumN_append, sumN_append, ← wu_l, i4, wu_l]
      · rcases List.mem_append.1 hp with hp | hp
        · obtain ⟨q, hq, e⟩ := i5 p hp
          exact ⟨q, List.mem_append_left _ hq, e⟩
        · exact ⟨r, List.mem_append_right _ (List.mem_singleton.2 rfl), by rw [List.mem_singleton.1 hp]⟩
      · simp only [List.getLast?_append, List.getLast?_singleton, Option.some_or, Option.some.injEq] at ht
        subst ht
        exact ⟨mergeP l, r.2, rfl⟩
    by_cases hl : l = []
    · subst hl
      exact more rfl (fun p hp => by cases hp)
    · obtain ⟨t, ht⟩ : ∃ t, l.getLast? = some t := ⟨l.getLast hl, List.getLast?_eq_some_getLast hl⟩
      obtain ⟨acc, n, hacc⟩ := i6 t ht
      have htm : t ∈ l := List.mem_of_getLast? ht
      have hle : cmpF t.1 r.1 ≤ 0 := p3 t htm r (List.mem_singleton.2 rfl)
      by_cases h0 : cmpF t.1 r.1 = 0
      · rw [hacc] at i1 i2 i3 i4 i5 ⊢
        rw [mergeStep_same (show cmpF t.1 r.1 = 0 from h0)]
        have e := cmpF_eq h0
        obtain ⟨q1, q2, q3⟩ := List.pairwise_append.1 i1
        refine ⟨List.pairwise_append.2 ⟨q1, List.pairwise_singleton _ _, fun p hp q hq => by rw [List.mem_singleton.1 hq]; exact q3 p hp (t.1, n) (List.mem_singleton.2 rfl)⟩, fun p hp => ?_, fun f => ?_, ?_, fun p hp => ?_, fun t2 ht2 => ?_⟩
        · rcases List.mem_append.1 hp with hp | hp
          · exact i2 p (List.mem_append_left _ hp)
          · rw [List.mem_singleton.1 hp]; exact wu_wu _
        · have := i3 f
          rw [cnt_append] at this ⊢
          rw [cnt_append]
          obtain ⟨rf, rn⟩ := r
          simp only [cnt] at this ⊢
          simp only at e
          rw [← e]
          by_cases hf0 : cmpF t.1 f = 0
          · simp only [if_pos hf0, Int.add_zero] at this ⊢
            change wu (cnt f acc + wu (n + rn)) = _
            rw [wu_r, ← Int.add_assoc, ← wu_l, this, wu_l]
          · simp only [if_neg hf0, Int.add_zero] at this ⊢
            exact this
        · rw [sumN_append] at i4 ⊢
          rw [sumN_append]
          obtain ⟨rf, rn⟩ := r
          simp only [sumN, Int.add_zero] at i4 ⊢
          change wu (sumN acc + wu (n + rn)) = _
          rw [wu_r, ← Int.add_assoc, ← wu_l, i4, wu_l]
        · rcases List.mem_append.1 hp with hp | hp
          · obtain ⟨q, hq, e⟩ := i5 p (List.mem_append_left _ hp)
            exact ⟨q, List.mem_append_left _ hq, e⟩
          · exact ⟨t, List.mem_append_left _ htm, by rw [List.mem_singleton.1 hp]⟩
        · simp only [List.getLast?_append, List.getLast?_singleton, Option.some_or, Option.some.injEq] at ht2
          subst ht2
          exact ⟨acc, _, by rw [e]⟩
      · refine more (by rw [hacc]; exact mergeStep_more h0) fun p hp => ?_
        rw [hacc] at hp i1
        obtain ⟨q1, q2, q3⟩ := List.pairwise_append.1 i1
        rcases List.mem_append.1 hp with hp | hp
        · exact cmpF_lt_le (q3 p hp (t.1, n) (List.mem_singleton.2 rfl)) hle
        · rw [List.mem_singleton.1 hp]; show cmpF t.1 r.1 < 0; omega

/-- What the rows of a bag are. -/
theorem BagP.inv {ps r : Ps} (h : BagP ps r) (hf : Fit ps) : Rise r ∧ Fit r ∧ (∀ p ∈ r, p.2 ≠ 0) ∧ (∀ f, wu (cnt f r) = wu (cnt f ps)) ∧ wu (sumN r) = wu (sumN ps) := by
  obtain ⟨s, hp, ha, rfl⟩ := h
  have hfs : Fit s := fun p hp2 => hf p (hp.mem_iff.1 hp2)
  obtain ⟨i1, i2, i3, i4, _, _⟩ := merge_inv s (ascP_pairwise ha) hfs
  change Rise (nzP (mergeP s)) ∧ Fit (nzP (mergeP s)) ∧ (∀ p ∈ nzP (mergeP s), p.2 ≠ 0) ∧ (∀ f, wu (cnt f (nzP (mergeP s))) = wu (cnt f ps)) ∧ wu (sumN (nzP (mergeP s))) = wu (sumN ps)
  exact ⟨i1.nz, i2.nz, nz_nz _, fun f => by rw [cnt_nz, i3, cnt_perm f hp], by rw [sumN_nz, i4, sumN_perm hp]⟩

end Go.Proofs.Ytcbgnikbaepkaaa
