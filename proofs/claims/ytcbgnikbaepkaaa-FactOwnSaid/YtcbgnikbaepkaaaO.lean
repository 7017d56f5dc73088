/- The owned rows behind the sort. -/
import Derived.Test.YtcbgnikbaepkaaaN
namespace Go.Proofs.Ytcbgnikbaepkaaa
open Go.Shelf Go.RowKit Go.Lib Go.Sort Go.Proofs

theorem sortWorldK_block {w0 w : World} {g m : Nat} {cur : Array Value} {e : TypeId} {z : Nat × Nat} (hb : w.heap[g]? = some (.cells cur e z)) (d : Array (Rw w0)) (os : Array Obj) :
    ∃ cur', (sortWorldK (Rw.enc (w := w0)) 4 w g 0 m d os).heap[g]? = some (.cells cur' e z) ∧ cur'.size = cur.size := by
  have hlt := (Array.getElem?_eq_some_iff.1 hb).1
  unfold sortWorldK
  rw [heap_grow_old _ _ (by rw [size_putRowK]; exact hlt)]
  simp only [putRowK, putRow, mapBlock, Array.getElem?_modify]
  have h2 : (Sort.ahead w m).heap[g]? = some (.cells cur e z) := hb
  rw [h2]
  exact ⟨_, rfl, by simp [putCells]⟩

theorem after_sort {w0 w : World} {base g n c m : Nat} {l : List Ro} (ho : OwnRows w base (.slice (some ⟨g, 0, none⟩) n c) l) (h : ∀ x ∈ l, x.ok w0) (d : Array (Rw w0)) (hd : d.size = l.length) (os : Array Obj) :
    OwnRows (sortWorldK (Rw.enc (w := w0)) 4 w g 0 m d os) base (.slice (some ⟨g, 0, none⟩) n c) (d.toList.map (·.1)) := by
  have hH := ho.holds h
  have hlen : (d.toList.map (·.1)).length = l.length := by simp [hd]
  refine ⟨flat_length _, ?_⟩
  rcases ho.2 with ⟨he, _⟩ | ⟨g', cap, cur, he, h1, h2, h3, h4, h5, h6⟩
  · cases he
  · cases he
    have hlt := (Array.getElem?_eq_some_iff.1 h2).1
    have hH' : HoldsK (Rw.enc (w := w0)) 4 (sortWorldK (Rw.enc (w := w0)) 4 w g 0 m d os) g 0 d := holdsK_sortWorldK_c _ 4 w g 0 (arr l h) d m os hH hlt (by rw [hd, arr_size])
    obtain ⟨cur', hb, hs⟩ := sortWorldK_block (m := m) h2 d os
    refine .inr ⟨g, c, cur', by rw [hlen], h1, hb, by rw [hlen]; exact h3, h4, by rw [hs, h5], ?_⟩
    rw [hlen]
    refine List.ext_getElem? fun t => ?_
    by_cases ht : t < l.length * 4
    · have hi : t / 4 < d.size := by omega
      have hc : t % 4 < 4 := Nat.mod_lt _ (by decide)
      have hcell := (HoldsK.cell hH' hi hc).1
      rw [show 0 + t / 4 * 4 + t % 4 = t by omega] at hcell
      simp only [World.cell?, hb] at hcell
      have hg := flat_get (d.toList.map (·.1)) (t / 4) (t % 4) (by rw [hlen]; omega) hc
      rw [show t / 4 * 4 + t % 4 = t by omega] at hg
      rw [List.getElem?_take, if_pos ht, hg]
      have e1 : (d.toList.map (·.1))[t / 4]'(by rw [hlen]; omega) = d[t / 4]!.1 := by
        rw [List.getElem_map, getElem!_pos d _ hi]; simp
      have e2 : (Rw.enc d[t / 4]!)[t % 4]! = (d[t / 4]!.1.enc)[t % 4]'(by show t % 4 < 4; exact hc) := getElem!_pos _ _ _
      rw [e1, List.getElem?_eq_getElem (l := d[t / 4]!.1.enc) (by show t % 4 < 4; exact hc), ← e2]
      simpa using hcell
    · have ht' : l.length * 4 ≤ t := Nat.le_of_not_lt ht
      rw [List.getElem?_eq_none (by rw [List.length_take]; exact Nat.le_trans (Nat.min_le_left _ _) ht'), List.getElem?_eq_none (by rw [flat_length, hlen]; exact ht')]

end Go.Proofs.Ytcbgnikbaepkaaa
