/- The order of facts is one. No program. -/
import Derived.Test.YtcbgnikbaepkaaaH
namespace Go.Proofs.Ytcbgnikbaepkaaa
open Go.Shelf Go.RowKit Go.Lib Go.Sort Go.Proofs

/-- A comparing function of a total order. -/
structure IsCmp {α : Type} (c : α → α → Int) : Prop where
  eq : ∀ x y, c x y = 0 ↔ x = y
  anti : ∀ x y, c y x = - c x y
  trans : ∀ x y z, c x y < 0 → c y z < 0 → c x z < 0

theorem isCmp_I : IsCmp cmpI := by
  refine ⟨fun x y => ?_, fun x y => ?_, fun x y z => ?_⟩
  · unfold cmpI; split <;> (try split) <;> constructor <;> intro h <;> omega
  · unfold cmpI; split <;> split <;> (try split) <;> omega
  · unfold cmpI
    intro h1 h2
    have a : x < y := by
      by_cases h : x < y
      · exact h
      · rw [if_neg h] at h1; split at h1 <;> omega
    have b : y < z := by
      by_cases h : y < z
      · exact h
      · rw [if_neg h] at h2; split at h2 <;> omega
    rw [if_pos (by omega)]; decide

theorem toList_inj {a b : ByteArray} (h : a.toList = b.toList) : a = b :=
  (MapKept.bytes_beq a b).1 (by rw [beq_toListBytes, h]; exact beq_self_eq_true _)

theorem cmpS_neg {x y : ByteArray} : cmpS x y < 0 ↔ x.toList < y.toList := by
  unfold cmpS
  constructor
  · intro h
    by_cases h1 : x.toList < y.toList
    · exact h1
    · rw [if_neg h1] at h; split at h <;> omega
  · intro h; rw [if_pos h]; decide

theorem isCmp_S : IsCmp cmpS := by
  refine ⟨fun x y => ?_, fun x y => ?_, fun x y z => ?_⟩
  · unfold cmpS
    rcases u8_tri x.toList y.toList with h | h | h
    · rw [if_pos h]
      exact ⟨fun e => by omega, fun e => absurd (e ▸ h) (List.lt_irrefl _)⟩
    · rw [if_neg (by rw [h]; exact List.lt_irrefl _), if_neg (by rw [h]; exact List.lt_irrefl _)]
      exact ⟨fun _ => toList_inj h, fun _ => rfl⟩
    · rw [if_neg (u8_lt_asymm h), if_pos h]
      exact ⟨fun e => by omega, fun e => absurd (e ▸ h) (List.lt_irrefl _)⟩
  · unfold cmpS
    rcases u8_tri x.toList y.toList with h | h | h
    · rw [if_neg (u8_lt_asymm h), if_pos h, if_pos h]; rfl
    · simp [h, List.lt_irrefl]
    · rw [if_pos h, if_neg (u8_lt_asymm h), if_pos h]
  · rw [cmpS_neg, cmpS_neg, cmpS_neg]
    exact List.lt_trans

theorem isCmp_L {α : Type} {c : α → α → Int} (h : IsCmp c) : IsCmp (cmpL c) := by
  refine ⟨fun x => ?_, fun x => ?_, fun x => ?_⟩
  · induction x with
    | nil => intro y; cases y <;> simp [cmpL]
    | cons a l ih =>
      intro y
      cases y with
      | nil => simp [cmpL]
      | cons b r =>
        unfold cmpL
        by_cases h0 : c a b = 0
        · rw [if_neg (by simpa using h0), ih r, (h.eq a b).1 h0]; simp
        · rw [if_pos h0]
          exact ⟨fun e => absurd e h0, fun e => by cases e; exact absurd ((h.eq a a).2 rfl) h0⟩
  · induction x with
    | nil => intro y; cases y <;> simp [cmpL]
    | cons a l ih =>
      intro y
      cases y with
      | nil => simp [cmpL]
      | cons b r =>
        unfold cmpL
        have ha := h.anti a b
        by_cases h0 : c a b = 0
        · rw [if_neg (by omega), if_neg (by omega), ih r]
        · rw [if_pos h0, if_pos (by omega), ha]
  · induction x with
    | nil => intro y z h1 h2; cases y <;> cases z <;> simp_all [cmpL]
    | cons a l ih =>
      intro y z h1 h2
      cases y with
      | nil => simp [cmpL] at h1
      | cons b r =>
        cases z with
        | nil => simp [cmpL] at h2
        | cons d s =>
          unfold cmpL at h1 h2 ⊢
          by_cases h0 : c a b = 0
          · rw [if_neg (by simpa using h0)] at h1
            have e := (h.eq a b).1 h0
            subst e
            by_cases h3 : c a d = 0
            · rw [if_neg (by simpa using h3)] at h2 ⊢
              exact ih r s h1 h2
            · rw [if_pos h3] at h2 ⊢; exact h2
          · rw [if_pos h0] at h1
            by_cases h3 : c b d = 0
            · have e := (h.eq b d).1 h3
              subst e
              rw [if_pos h0]; exact h1
            · rw [if_pos h3] at h2
              have h4 := h.trans a b d h1 h2
              rw [if_pos (by omega)]; exact h4

theorem isCmp_F : IsCmp cmpF := by
  have hI := isCmp_I
  have hS := isCmp_L isCmp_S
  have hM := isCmp_L isCmp_I
  have key : ∀ f g : Fa, cmpF f g = if cmpI f.time g.time ≠ 0 then cmpI f.time g.time else if cmpL cmpS f.dims g.dims ≠ 0 then cmpL cmpS f.dims g.dims else cmpL cmpI f.meas g.meas := by
    intro f g
    unfold cmpF firstOf firstOf firstOf firstOf
    by_cases h1 : cmpI f.time g.time = 0 <;> by_cases h2 : cmpL cmpS f.dims g.dims = 0 <;> by_cases h3 : cmpL cmpI f.meas g.meas = 0 <;> simp [h1, h2, h3]
  refine ⟨fun x y => ?_, fun x y => ?_, fun x y z h1 h2 => ?_⟩
  · rw [key]
    by_cases h1 : cmpI x.time y.time = 0
    · by_cases h2 : cmpL cmpS x.dims y.dims = 0
      · rw [if_neg (by simpa using h1), if_neg (by simpa using h2), hM.eq]
        have e1 := (hI.eq _ _).1 h1
        have e2 := (hS.eq _ _).1 h2
        cases x; cases y
        simp_all
      · rw [if_neg (by simpa using h1), if_pos h2]
        exact ⟨fun e => absurd e h2, fun e => absurd ((hS.eq _ _).2 (by rw [e])) h2⟩
    · rw [if_pos h1]
      exact ⟨fun e => absurd e h1, fun e => absurd ((hI.eq _ _).2 (by rw [e])) h1⟩
  · rw [key, key]
    have a1 := hI.anti x.time y.time
    have a2 := hS.anti x.dims y.dims
    have a3 := hM.anti x.meas y.meas
    by_cases h1 : cmpI x.time y.time = 0
    · rw [if_neg (show ¬ cmpI y.time x.time ≠ 0 by omega), if_neg (show ¬ cmpI x.time y.time ≠ 0 by omega)]
      by_cases h2 : cmpL cmpS x.dims y.dims = 0
      · rw [if_neg (show ¬ cmpL cmpS y.dims x.dims ≠ 0 by omega), if_neg (show ¬ cmpL cmpS x.dims y.dims ≠ 0 by omega)]; exact a3
      · rw [if_pos (show cmpL cmpS y.dims x.dims ≠ 0 by omega), if_pos h2]; exact a2
    · rw [if_pos (show cmpI y.time x.time ≠ 0 by omega), if_pos h1]; exact a1
  · rw [key] at h1 h2 ⊢
    by_cases a1 : cmpI x.time y.time = 0
    · have e1 := (hI.eq _ _).1 a1
      rw [if_neg (by omega)] at h1
      rw [← e1] at h2
      by_cases a2 : cmpI x.time z.time = 0
      · rw [if_neg (by omega)] at h2 ⊢
        by_cases b1 : cmpL cmpS x.dims y.dims = 0
        · have e2 := (hS.eq _ _).1 b1
          rw [if_neg (by omega)] at h1
          rw [← e2] at h2
          by_cases b2 : cmpL cmpS x.dims z.dims = 0
          · rw [if_neg (by omega)] at h2 ⊢
            exact hM.trans _ _ _ h1 h2
          · rw [if_pos b2] at h2 ⊢; exact h2
        · rw [if_pos b1] at h1
          by_cases b2 : cmpL cmpS y.dims z.dims = 0
          · have e2 := (hS.eq _ _).1 b2
            rw [← e2, if_pos b1]; exact h1
          · rw [if_pos b2] at h2
            have h4 := hS.trans _ _ _ h1 h2
            rw [if_pos (by omega)]; exact h4
      · rw [if_pos a2] at h2 ⊢; exact h2
    · rw [if_pos a1] at h1
      by_cases a2 : cmpI y.time z.time = 0
      · have e1 := (hI.eq _ _).1 a2
        rw [← e1, if_pos a1]; exact h1
      · rw [if_pos a2] at h2
        have h4 := hI.trans _ _ _ h1 h2
        rw [if_pos (by omega)]; exact h4

theorem swo_of {α : Type} {c : α → α → Int} (h : IsCmp c) : SWO (fun x y => decide (c x y < 0)) := by
  refine ⟨fun x => ?_, fun x y z h1 h2 => ?_, fun x y z h1 h2 => ?_⟩
  · have := (h.eq x x).2 rfl
    simp [this]
  · simp only [decide_eq_true_eq] at h1 h2 ⊢
    exact h.trans x y z h1 h2
  · simp only [decide_eq_false_iff_not] at h1 h2 ⊢
    intro h3
    have a1 := h.anti x y
    have a2 := h.anti y z
    by_cases e1 : c x y = 0
    · rw [(h.eq x y).1 e1] at h3; omega
    · have := h.trans y x z (by omega) h3
      omega

theorem swo_rows (w : World) : SWO (ltOf (Rw.cf (w := w))) := by
  have h := swo_of isCmp_F
  exact ⟨fun x => h.irrefl x.1.f, fun x y z => h.trans x.1.f y.1.f z.1.f, fun x y z => h.ntrans x.1.f y.1.f z.1.f⟩

end Go.Proofs.Ytcbgnikbaepkaaa
