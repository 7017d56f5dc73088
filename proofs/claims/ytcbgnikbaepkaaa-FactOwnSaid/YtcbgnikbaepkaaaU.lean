/- Rows of which those of 0 are struck. -/
import Derived.Test.YtcbgnikbaepkaaaT
namespace Go.Proofs.Ytcbgnikbaepkaaa
open Go.Shelf Go.RowKit Go.Lib Go.Sort Go.Proofs

theorem OwnRows.grows {w w' : World} {base : Nat} {v : Value} {l : List Ro} (h : OwnRows w base v l) (hg : Grows w w') : OwnRows w' base v l := h.same fun k hk => hg.block k (h.lt hk).2

/-- The row is not 0 times. -/
def nz (x : Ro) : Bool := !(x.n == 0)

/-- Where the first row of 0 is. -/
def IdxIs (l : List Ro) (w : World) (e : Ending) (w' : World) : Prop :=
  Grows w w' ∧ ((e = .returned (.int .i64 (-1)) ∧ ∀ x ∈ l, nz x = true) ∨ ∃ i : Nat, e = .returned (.int .i64 i) ∧ i < l.length ∧ (∀ x, l[i]? = some x → nz x = false) ∧ ∀ x ∈ l.take i, nz x = true)

theorem take_nz {l : List Ro} {k : Nat} {x : Ro} (hx : l[k]? = some x) (h : ∀ y ∈ l.take k, nz y = true) (hz : nz x = true) : ∀ y ∈ l.take (k + 1), nz y = true := by
  obtain ⟨h1, rfl⟩ := List.getElem?_eq_some_iff.1 hx
  intro y hy
  rw [List.take_succ_eq_append_getElem h1, List.mem_append, List.mem_singleton] at hy
  rcases hy with hy | rfl
  · exact h y hy
  · exact hz

set_option maxHeartbeats 1600000 in
set_option maxRecDepth 100000 in
theorem index_is {w : World} {base g c : Nat} (l : List Ro) (ho : OwnRows w base (.slice (some ⟨g, 0, none⟩) l.length c) l) (hsz : l.length ≤ 4611686018427387904) :
    Calls Try.prog 55 #[.slice (some ⟨g, 0, none⟩) l.length c, .func (.func 49) #[] #[]] w (IdxIs l w) := by
  have HO := Lib.hid ho
  clear ho
  go_enter Try.func55, Try.ntmps55
  go_wp2_with fail
  go_loopw [8] (fun i wr => ∃ k : Nat, k ≤ l.length ∧ i = .int .i64 k ∧ Grows w wr ∧ ∀ y ∈ l.take k, nz y = true) (fun i _ => l.length - (intOf i).toNat)
  case atStart => exact ⟨0, by omega, rfl, Grows.refl _, fun y hy => by simp at hy⟩
  case round =>
    obtain ⟨k, hk, rfl, hgr, hnz⟩ := hrel
    have HR := Lib.hid hgr
    have HN := Lib.hid hnz
    clear hnz
    by_cases hlt : k < l.length
    · obtain ⟨x, hx⟩ : ∃ x, l[k]? = some x := ⟨_, List.getElem?_eq_getElem hlt⟩
      obtain ⟨⟨x0, x1, x2, x3⟩, _⟩ := (HO.out.grows hgr).cells hx
      have hc := fun V => isZero_is x V
      have HC := Lib.hid hc
      have HX := Lib.hid hx
      obtain ⟨q, hq⟩ : ∃ q, q = (x.n == 0) := ⟨_, rfl⟩
      have HQ := Lib.hid hq
      clear hgr hx hc hq
      cases q
      · go_wp2_with (go_at_call 49; refine (HC.out _).mono ?_; rintro e w' ⟨rfl, hg2⟩; rw [← HQ.out]; have G2 := Lib.hid hg2; clear hg2)
        go_roundw
        case rel => exact ⟨k + 1, by omega, by go_num, HR.out.trans G2.out, take_nz HX.out HN.out (by unfold nz; rw [← HQ.out]; rfl)⟩
        case measure => simp [intOf]; omega
      · go_wp2_with (go_at_call 49; refine (HC.out _).mono ?_; rintro e w' ⟨rfl, hg2⟩; rw [← HQ.out]; have G2 := Lib.hid hg2; clear hg2)
        go_ret
        exact ⟨HR.out.trans G2.out, .inr ⟨k, rfl, hlt, fun y hy => by rw [HX.out] at hy; cases hy; unfold nz; rw [← HQ.out]; rfl, HN.out⟩⟩
    · obtain rfl : k = l.length := by omega
      clear hgr
      go_wp2_with fail
      go_ret
      exact ⟨HR.out, .inl ⟨rfl, fun x hx => HN.out x (by rw [List.take_length]; exact hx)⟩⟩

end Go.Proofs.Ytcbgnikbaepkaaa
