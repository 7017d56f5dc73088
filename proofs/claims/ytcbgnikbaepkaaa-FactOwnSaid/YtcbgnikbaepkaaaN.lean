/- The owned rows as the sort reads them. -/
import Derived.Test.YtcbgnikbaepkaaaM
namespace Go.Proofs.Ytcbgnikbaepkaaa
open Go.Shelf Go.RowKit Go.Lib Go.Sort Go.Proofs

/-- The rows, each with its fact's place. -/
def arr {w0 : World} (l : List Ro) (h : ∀ x ∈ l, x.ok w0) : Array (Rw w0) := (l.pmap (fun x hx => (⟨x, hx⟩ : Rw w0)) h).toArray

theorem arr_size {w0 : World} (l : List Ro) (h : ∀ x ∈ l, x.ok w0) : (arr l h).size = l.length := by
  show (List.pmap (fun x hx => (⟨x, hx⟩ : Rw w0)) l h).length = l.length
  exact List.length_pmap ..

theorem arr_get {w0 : World} (l : List Ro) (h : ∀ x ∈ l, x.ok w0) (i : Nat) (hi : i < l.length) : (arr l h)[i]!.1 = l[i] := by
  have hs : i < (arr l h).size := by rw [arr_size]; exact hi
  rw [getElem!_pos (arr l h) i hs]
  have hp : i < (List.pmap (fun x hx => (⟨x, hx⟩ : Rw w0)) l h).length := hs
  show ((List.pmap (fun x hx => (⟨x, hx⟩ : Rw w0)) l h)[i]'hp).1 = l[i]
  rw [List.getElem_pmap]

theorem OwnRows.holds {w0 w : World} {base g n c : Nat} {l : List Ro} (ho : OwnRows w base (.slice (some ⟨g, 0, none⟩) n c) l) (h : ∀ x ∈ l, x.ok w0) : HoldsK (Rw.enc (w := w0)) 4 w g 0 (arr l h) := by
  rcases ho.2 with ⟨he, _⟩ | ⟨g', cap, cur, he, h1, h2, h3, h4, h5, h6⟩
  · cases he
  · cases he
    intro t ht
    rw [size_flatK, arr_size] at ht
    rw [get_flatK _ _ _ _ (by rw [arr_size]; exact ht)]
    have hi : t / 4 < l.length := by omega
    have hc : t % 4 < 4 := Nat.mod_lt _ (by decide)
    have hg := flat_get l (t / 4) (t % 4) hi hc
    rw [show t / 4 * 4 + t % 4 = t by omega, ← h6] at hg
    have hlen : (l[t / 4].enc).length = 4 := rfl
    have hv : (Rw.enc (arr l h)[t / 4]!)[t % 4]! = (l[t / 4].enc)[t % 4]'(by rw [hlen]; exact hc) := by
      unfold Rw.enc
      rw [arr_get l h _ hi]
      exact getElem!_pos _ _ _
    rw [hv]
    rw [List.getElem?_take, if_pos (by omega), List.getElem?_eq_getElem (l := l[t / 4].enc) (by rw [hlen]; exact hc)] at hg
    refine ⟨?_, by simp [World.frozen?, h2]⟩
    simp only [World.cell?, h2, Nat.zero_add]
    simpa using hg

end Go.Proofs.Ytcbgnikbaepkaaa
