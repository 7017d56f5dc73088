/- The document's bag, as plain rows. No program. -/
import Derived.Test.YtcbgnikbaepkaaaPl
namespace Go.Proofs.Ytcbgnikbaepkaaa

def putP (f : Fa) (n : Int) : Ps → Ps
  | [] => [(f, n)]
  | (g, m) :: r => if cmpF g f < 0 then (g, m) :: putP f n r else if cmpF g f = 0 then (f, wu (m + n)) :: r else (f, n) :: (g, m) :: r

def ownAll (l : Ps) : Ps := l.foldl (fun b p => putP p.1 p.2 b) []

theorem ownAll_snoc (l : Ps) (p : Fa × Int) : ownAll (l ++ [p]) = putP p.1 p.2 (ownAll l) := by simp [ownAll, List.foldl_append]

theorem put_mem (f : Fa) (n : Int) {b : Ps} {p : Fa × Int} (h : p ∈ putP f n b) : p.1 = f ∨ p ∈ b := by
  induction b with
  | nil => exact .inl (by rw [List.mem_singleton.1 h])
  | cons x r ih =>
    obtain ⟨g, m⟩ := x
    unfold putP at h
    split at h
    · rcases List.mem_cons.1 h with e | e
      · exact .inr (by rw [e]; exact List.mem_cons_self)
      · exact (ih e).imp id fun h => List.mem_cons_of_mem _ h
    · split at h
      · rcases List.mem_cons.1 h with e | e
        · exact .inl (by rw [e])
        · exact .inr (List.mem_cons_of_mem _ e)
      · rcases List.mem_cons.1 h with e | e
        · exact .inl (by rw [e])
        · exact .inr e

theorem put_rise (f : Fa) (n : Int) {b : Ps} (h : Rise b) : Rise (putP f n b) := by
  induction b with
  | nil => exact List.pairwise_singleton _ _
  | cons x r ih =>
    obtain ⟨g, m⟩ := x
    obtain ⟨h1, h2⟩ := List.pairwise_cons.1 h
    unfold putP
    split
    · rename_i hlt
      refine List.pairwise_cons.2 ⟨fun p hp => ?_, ih h2⟩
      rcases put_mem f n hp with e | e
      · show cmpF g p.1 < 0; rw [e]; exact hlt
      · exact h1 p e
    · split
      · rename_i h0
        have e := cmpF_eq h0
        subst e
        exact List.pairwise_cons.2 ⟨h1, h2⟩
      · rename_i hlt h0
        have hfg : cmpF f g < 0 := by have := cmpF_anti f g; omega
        refine List.pairwise_cons.2 ⟨fun p hp => ?_, h⟩
        rcases List.mem_cons.1 hp with e | e
        · rw [e]; exact hfg
        · exact isCmp_F.trans f g p.1 hfg (h1 p e)

theorem put_fit (f : Fa) (n : Int) {b : Ps} (h : Fit b) (hn : wu n = n) : Fit (putP f n b) := by
  induction b with
  | nil => intro p hp; rw [List.mem_singleton.1 hp]; exact hn
  | cons x r ih =>
    obtain ⟨g, m⟩ := x
    have hr : Fit r := fun p hp => h p (List.mem_cons_of_mem _ hp)
    unfold putP
    split
    · intro p hp
      rcases List.mem_cons.1 hp with e | e
      · rw [e]; exact h (g, m) List.mem_cons_self
      · exact ih hr p e
    · split
      · intro p hp
        rcases List.mem_cons.1 hp with e | e
        · rw [e]; exact wu_wu _
        · exact hr p e
      · intro p hp
        rcases List.mem_cons.1 hp with e | e
        · rw [e]; exact hn
        · exact h p e

theorem put_cnt (k f : Fa) (n : Int) (b : Ps) : wu (cnt k (putP f n b)) = wu ((if cmpF f k = 0 then n else 0) + cnt k b) := by
  induction b with
  | nil => simp only [putP, cnt]
  | cons x r ih =>
    obtain ⟨g, m⟩ := x
    unfold putP
    split
    · simp only [cnt]
      rw [← wu_r, ih, wu_r]
      congr 1; omega
    · split
      · rename_i h0
        have e := cmpF_eq h0
        subst e
        simp only [cnt]
        split
        · rw [wu_l]; congr 1; omega
        · congr 1; omega
      · simp only [cnt]

theorem put_sum (f : Fa) (n : Int) (b : Ps) : wu (sumN (putP f n b)) = wu (n + sumN b) := by
  induction b with
  | nil => simp only [putP, sumN]
  | cons x r ih =>
    obtain ⟨g, m⟩ := x
    unfold putP
    split
    · simp only [sumN]
      rw [← wu_r, ih, wu_r]
      congr 1; omega
    · split
      · simp only [sumN]
        rw [wu_l]; congr 1; omega
      · simp only [sumN]

theorem own_inv (l : Ps) (hf : Fit l) : Rise (ownAll l) ∧ Fit (ownAll l) ∧ (∀ f, wu (cnt f (ownAll l)) = wu (cnt f l)) ∧ wu (sumN (ownAll l)) = wu (sumN l) := by
  induction hlen : l.length generalizing l with
  | zero =>
    obtain rfl : l = [] := List.eq_nil_of_length_eq_zero hlen
    exact ⟨List.Pairwise.nil, (fun p hp => by cases hp), fun f => rfl, rfl⟩
  | succ k ih =>
    have hne : l ≠ [] := by intro e; subst e; simp at hlen
    obtain ⟨l, r, rfl⟩ : ∃ s r, l = s ++ [r] := ⟨l.dropLast, l.getLast hne, (List.dropLast_concat_getLast hne).symm⟩
    obtain ⟨i1, i2, i3, i4⟩ := ih l (fun p hp => hf p (List.mem_append_left _ hp)) (by simpa using hlen)
    have hr : wu r.2 = r.2 := hf r (List.mem_append_right _ (List.mem_singleton.2 rfl))
    rw [ownAll_snoc]
    refine ⟨put_rise _ _ i1, put_fit _ _ i2 hr, fun f => ?_, ?_⟩
    · rw [put_cnt, ← wu_r, i3, wu_r, cnt_append]
      congr 1
      obtain ⟨rf, rn⟩ := r
      simp only [cnt]; omega
    · rw [put_sum, ← wu_r, i4, wu_r, sumN_append]
      congr 1
      obtain ⟨rf, rn⟩ := r
      simp only [sumN]; omega

/-- The bag that rows stand for. -/
def ownP (l : Ps) : Ps := nzP (ownAll l)

theorem ownP_inv (l : Ps) (hf : Fit l) : Rise (ownP l) ∧ Fit (ownP l) ∧ (∀ p ∈ ownP l, p.2 ≠ 0) ∧ (∀ f, wu (cnt f (ownP l)) = wu (cnt f l)) ∧ wu (sumN (ownP l)) = wu (sumN l) := by
  obtain ⟨i1, i2, i3, i4⟩ := own_inv l hf
  exact ⟨i1.nz, i2.nz, nz_nz _, fun f => by unfold ownP; rw [cnt_nz, i3], by unfold ownP; rw [sumN_nz, i4]⟩

theorem BagP.own {ps r : Ps} (h : BagP ps r) (hf : Fit ps) : r = ownP ps := by
  obtain ⟨a1, a2, a3, a4, _⟩ := h.inv hf
  obtain ⟨b1, b2, b3, b4, _⟩ := ownP_inv ps hf
  exact rise_unique a1 b1 a2 b2 a3 b3 fun f => by rw [a4, b4]

/-- Rows of which each fact stands as often have one bag. -/
theorem own_congr {a b : Ps} (ha : Fit a) (hb : Fit b) (h : ∀ f, wu (cnt f a) = wu (cnt f b)) : ownP a = ownP b := by
  obtain ⟨a1, a2, a3, a4, _⟩ := ownP_inv a ha
  obtain ⟨b1, b2, b3, b4, _⟩ := ownP_inv b hb
  exact rise_unique a1 b1 a2 b2 a3 b3 fun f => by rw [a4, b4, h]

def xFa : Fa := ⟨1, [⟨#[97]⟩], []⟩
def yFa : Fa := ⟨2, [], []⟩

theorem own_awake : ownP [(xFa, 1), (yFa, 1), (xFa, 1)] = [(xFa, 2), (yFa, 1)] := by
  have h1 : cmpF xFa yFa = -1 := by rfl
  have h2 : cmpF yFa xFa = 1 := by rfl
  have h3 := cmpF_refl xFa
  have h4 : wu 2 = 2 := by rfl
  simp [ownP, ownAll, putP, nzP, h1, h2, h3, h4]

end Go.Proofs.Ytcbgnikbaepkaaa
