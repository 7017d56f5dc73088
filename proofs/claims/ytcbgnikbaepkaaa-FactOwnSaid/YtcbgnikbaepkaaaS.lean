/- A row of the program's own, written over. -/
import Derived.Test.YtcbgnikbaepkaaaR
namespace Go.Proofs.Ytcbgnikbaepkaaa
open Go.Shelf Go.RowKit Go.Lib Go.Sort Go.Proofs

theorem flat_set_n (l : List Ro) (i : Nat) (x : Ro) (n : Int) (hx : l[i]? = some x) : flat (l.set i { x with n := n }) = (flat l).set (i * 4 + 3) (.int .u64 n) := by
  induction l generalizing i with
  | nil => simp at hx
  | cons y l ih =>
    cases i with
    | zero =>
      cases hx
      rfl
    | succ i =>
      have := ih i (by simpa using hx)
      simp only [flat, List.set_cons_succ, List.flatMap_cons] at *
      rw [this, List.set_append_right _ _ (by show y.enc.length ≤ _; simp [Ro.enc]; omega)]
      congr 2
      simp [Ro.enc]; omega

theorem OwnRows.set_n {w : World} {base g n c i : Nat} {l : List Ro} {x : Ro} (h : OwnRows w base (.slice (some ⟨g, 0, none⟩) n c) l) (hx : l[i]? = some x) (k : Int) :
    OwnRows (w.setCell ⟨g, i * 4 + 3, none⟩ (.int .u64 k)) base (.slice (some ⟨g, 0, none⟩) n c) (l.set i { x with n := k }) := by
  refine ⟨flat_length _, ?_⟩
  rcases h.2 with ⟨he, _⟩ | ⟨g', cap, cur, he, h1, h2, h3, h4, h5, h6⟩
  · cases he
  · cases he
    refine .inr ⟨g, c, cur.setIfInBounds (i * 4 + 3) (.int .u64 k), by simp, h1, heap_setCell_at h2 _, by simpa using h3, h4, by simpa using h5, ?_⟩
    rw [Array.toList_setIfInBounds, List.length_set, List.take_set, h6, flat_set_n l i x k hx]

theorem flat_set (l : List Ro) (i : Nat) (x : Ro) (hi : i < l.length) : flat (l.set i x) = ((((flat l).set (i * 4) (.int .i64 x.f.time)).set (i * 4 + 1) x.d).set (i * 4 + 2) x.m).set (i * 4 + 3) (.int .u64 x.n) := by
  induction l generalizing i with
  | nil => simp at hi
  | cons y l ih =>
    cases i with
    | zero => rfl
    | succ i =>
      have := ih i (by simpa using hi)
      have hy : y.enc.length = 4 := rfl
      simp only [flat, List.set_cons_succ, List.flatMap_cons] at *
      rw [this, List.set_append_right _ _ (by rw [hy]; omega), List.set_append_right _ _ (by rw [hy]; omega), List.set_append_right _ _ (by rw [hy]; omega), List.set_append_right _ _ (by rw [hy]; omega), hy]
      congr 1
      rw [show (i + 1) * 4 - 4 = i * 4 by omega, show (i + 1) * 4 + 1 - 4 = i * 4 + 1 by omega, show (i + 1) * 4 + 2 - 4 = i * 4 + 2 by omega, show (i + 1) * 4 + 3 - 4 = i * 4 + 3 by omega]

theorem OwnRows.set {w : World} {base g n c i : Nat} {l : List Ro} (h : OwnRows w base (.slice (some ⟨g, 0, none⟩) n c) l) (hi : i < l.length) (x : Ro) :
    OwnRows ((((w.setCell ⟨g, i * 4, none⟩ (.int .i64 x.f.time)).setCell ⟨g, i * 4 + 1, none⟩ x.d).setCell ⟨g, i * 4 + 2, none⟩ x.m).setCell ⟨g, i * 4 + 3, none⟩ (.int .u64 x.n)) base (.slice (some ⟨g, 0, none⟩) n c) (l.set i x) := by
  refine ⟨flat_length _, ?_⟩
  rcases h.2 with ⟨he, _⟩ | ⟨g', cap, cur, he, h1, h2, h3, h4, h5, h6⟩
  · cases he
  · cases he
    refine .inr ⟨g, c, _, by simp, h1, heap_setCell_at (heap_setCell_at (heap_setCell_at (heap_setCell_at h2 _) _) _) _, by simpa using h3, h4, by simpa using h5, ?_⟩
    simp only [Array.toList_setIfInBounds]
    rw [List.length_set, List.take_set, List.take_set, List.take_set, List.take_set, h6, flat_set l i x hi]

theorem OwnRows.cells {w : World} {base g n c : Nat} {l : List Ro} (h : OwnRows w base (.slice (some ⟨g, 0, none⟩) n c) l) {i : Nat} {x : Ro} (hx : l[i]? = some x) :
    (w.cell? ⟨g, i * 4, none⟩ = some (.int .i64 x.f.time) ∧ w.cell? ⟨g, i * 4 + 1, none⟩ = some (.slice x.da x.dn x.dc) ∧ w.cell? ⟨g, i * 4 + 2, none⟩ = some (.slice x.ma x.mn x.mc) ∧ w.cell? ⟨g, i * 4 + 3, none⟩ = some (.int .u64 x.n)) ∧
    ∀ j, w.frozen? ⟨g, j, none⟩ = false := by
  rcases h.2 with ⟨he, _⟩ | ⟨g', cap, cur, he, h1, h2, h3, h4, h5, h6⟩
  · cases he
  · cases he
    obtain ⟨hi, rfl⟩ := List.getElem?_eq_some_iff.1 hx
    have key : ∀ j, j < 4 → w.cell? ⟨g, i * 4 + j, none⟩ = (l[i].enc)[j]? := fun j hj => by
      have := flat_get l i j hi hj
      rw [← h6, List.getElem?_take, if_pos (by omega)] at this
      simp only [World.cell?, h2]
      simpa using this
    exact ⟨⟨key 0 (by decide), key 1 (by decide), key 2 (by decide), key 3 (by decide)⟩, fun j => by simp [World.frozen?, h2]⟩

end Go.Proofs.Ytcbgnikbaepkaaa
