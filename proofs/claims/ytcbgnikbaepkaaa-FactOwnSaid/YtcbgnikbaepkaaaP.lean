/- The sort as one contract. -/
import Derived.Test.YtcbgnikbaepkaaaO
namespace Go.Proofs.Ytcbgnikbaepkaaa
open Go.Shelf Go.RowKit Go.Lib Go.Sort Go.Proofs

/-- Ascending. -/
def Asc (l : List Ro) : Prop := ∀ i j, (hi : i < j) → (hj : j < l.length) → cmpF l[i].f l[j].f ≤ 0

/-- What SortStableFunc does to rows of a block of the program's own. -/
def Sorts (w0 : World) (base g n c : Nat) (l : List Ro) (w : World) (e : Ending) (w' : World) : Prop :=
  e = .returned (.tuple #[]) ∧ ∃ l', OwnRows w' base (.slice (some ⟨g, 0, none⟩) n c) l' ∧ l'.Perm l ∧ Asc l' ∧ (∀ x ∈ l', x.ok w0) ∧ w.heap.size ≤ w'.heap.size ∧ w'.os = w.os ∧ w'.tape = w.tape ∧ w'.output = w.output ∧ ∀ k, k < w.heap.size → k ≠ g → w'.heap[k]? = w.heap[k]?

theorem asc_of {w0 : World} {d : Array (Rw w0)} (h : SortedIn (ltOf (Rw.cf (w := w0))) 0 d.size d) : Asc (d.toList.map (·.1)) := by
  intro i j hi hj
  simp only [List.length_map, Array.length_toList] at hj
  have := h i j (Nat.zero_le _) hi hj
  rw [getElem!_pos d _ hj, getElem!_pos d _ (by omega)] at this
  have h2 : ¬ cmpF d[j].1.f d[i].1.f < 0 := of_decide_eq_false this
  have := isCmp_F.anti d[i].1.f d[j].1.f
  simp only [List.getElem_map, Array.getElem_toList]
  omega

theorem sorts_of {w0 w w' : World} {base g n c m : Nat} {l : List Ro} (ho : OwnRows w base (.slice (some ⟨g, 0, none⟩) n c) l) (h : ∀ x ∈ l, x.ok w0) (d : Array (Rw w0)) (hp : PermIn 0 (arr l h).size (arr l h) d) (hs : SortedIn (ltOf (Rw.cf (w := w0))) 0 (arr l h).size d) (os : Array Obj)
    (hw : w' = sortWorldK (Rw.enc (w := w0)) 4 w g 0 m d os) : Sorts w0 base g n c l w (.returned (.tuple #[])) w' := by
  have hsz : d.size = l.length := hp.1.trans (arr_size l h)
  have hperm : d.toList.Perm (arr l h).toList := by
    have := hp.2.2
    have e : List.take (arr l h).size d.toList = d.toList := List.take_of_length_le (by rw [Array.length_toList, hp.1]; exact Nat.le_refl _)
    simpa [e] using this
  have hmap : ((arr l h).toList.map (·.1)) = l := by
    refine List.ext_getElem (by simp [arr_size]) fun i h1 h2 => ?_
    have := arr_get l h i h2
    rw [getElem!_pos (arr l h) i (by rw [arr_size]; exact h2)] at this
    simpa using this
  refine ⟨rfl, d.toList.map (·.1), hw ▸ after_sort ho h d hsz os, ?_, asc_of (by rw [hp.1]; exact hs), ?_, ?_, ?_, ?_, ?_, ?_⟩
  · have := hperm.map (·.1)
    rwa [hmap] at this
  · intro x hx
    obtain ⟨y, _, rfl⟩ := List.mem_map.1 hx
    exact y.2
  · rw [hw]; exact size_sortWorldK_c _ 4 w g 0 m d os
  · rw [hw]; rfl
  · rw [hw]; rfl
  · rw [hw]; rfl
  · intro k hk hne
    rw [hw]
    unfold sortWorldK
    rw [heap_grow_old _ _ (by rw [size_putRowK]; exact hk)]
    simp only [putRowK, putRow, mapBlock, Array.getElem?_modify]
    rw [if_neg (Ne.symm hne)]
    rfl

/-- Fewer than 20 rows. -/
theorem sorts_small {w0 w : World} {base g n c : Nat} {l : List Ro} (ho : OwnRows w base (.slice (some ⟨g, 0, none⟩) n c) l) (h : ∀ x ∈ l, x.ok w0) (hk : Kept w0 w) (h0 : w0.heap.size ≤ base) (hn : l.length < 20) :
    Calls Try.prog 45 #[.slice (some ⟨g, 0, none⟩) n c, .func (.func 46) #[] #[]] w (Sorts w0 base g n c l w) := by
  have hlt := ho.lt (k := g) rfl
  obtain ⟨a, c', hv⟩ := ho.slice
  have hnl : n = l.length := by injection hv
  have hs := arr_size l h
  have hcall := sort_small (cap := c) (arr l h) hk (by omega) hlt.2 (ho.holds h) (by omega)
  rw [hs, ← hnl] at hcall
  refine hcall.mono ?_
  rintro e w' ⟨rfl, m, os, hw⟩
  rw [hnl, ← hs] at hw
  obtain ⟨p1, p2⟩ := insertionSort_holds (lt := ltOf (Rw.cf (w := w0))) (swo_rows w0) (arr l h) 0 (arr l h).size (Nat.zero_le _) (Nat.le_refl _)
  exact sorts_of ho h _ p1 p2 os hw

end Go.Proofs.Ytcbgnikbaepkaaa
