/- Comparing rows; the first that is not 0. -/
import Derived.Test.YtcbgnikbaepkaaaA
namespace Go.Proofs.Ytcbgnikbaepkaaa
open Go.RowKit

theorem cmpL_step {α : Type} (f : α → α → Int) {l r : List α} {k : Nat} {x y : α} (hx : l[k]? = some x) (hy : r[k]? = some y) (h : f x y = 0) : cmpL f (l.drop k) (r.drop k) = cmpL f (l.drop (k + 1)) (r.drop (k + 1)) := by
  obtain ⟨h1, rfl⟩ := List.getElem?_eq_some_iff.1 hx
  obtain ⟨h2, rfl⟩ := List.getElem?_eq_some_iff.1 hy
  rw [List.drop_eq_getElem_cons h1, List.drop_eq_getElem_cons h2, cmpL, if_neg (by simpa using h)]

theorem cmpL_stop {α : Type} (f : α → α → Int) {l r : List α} {k : Nat} {x y : α} (hx : l[k]? = some x) (hy : r[k]? = some y) (h : f x y ≠ 0) : cmpL f (l.drop k) (r.drop k) = f x y := by
  obtain ⟨h1, rfl⟩ := List.getElem?_eq_some_iff.1 hx
  obtain ⟨h2, rfl⟩ := List.getElem?_eq_some_iff.1 hy
  rw [List.drop_eq_getElem_cons h1, List.drop_eq_getElem_cons h2, cmpL, if_pos h]

theorem cmpL_long {α : Type} (f : α → α → Int) {l r : List α} {k : Nat} (h1 : k < l.length) (h2 : r.length ≤ k) : cmpL f (l.drop k) (r.drop k) = 1 := by
  rw [List.drop_eq_getElem_cons h1, List.drop_of_length_le h2, cmpL]

theorem cmpL_end {α : Type} (f : α → α → Int) {l r : List α} (h : l.length ≤ r.length) : cmpL f (l.drop l.length) (r.drop l.length) = if l.length < r.length then -1 else 0 := by
  rw [List.drop_length]
  by_cases hlt : l.length < r.length
  · rw [if_pos hlt, List.drop_eq_getElem_cons hlt, cmpL]
  · rw [if_neg hlt, List.drop_of_length_le (by omega), cmpL]

set_option maxHeartbeats 800000 in
theorem rowsS43 (v1 v2 : Value) (l r : List ByteArray) (w : World) (h1 : Cells w v1 (l.map Value.string)) (h2 : Cells w v2 (r.map Value.string)) (hl : l.length ≤ 9223372036854775807) :
    Calls Try.prog 43 #[v1, v2] w fun e w' => e = .returned (.int .i64 (cmpL cmpS l r)) ∧ w' = w := by
  obtain ⟨a, c, rfl, ha⟩ := h1.slice
  obtain ⟨b, d, rfl, hb⟩ := h2.slice
  simp only [List.length_map]
  have HA := Lib.hid ha
  have HB := Lib.hid hb
  clear ha hb h1 h2
  go_enter Try.func43, Try.ntmps43
  go_wp2_with fail
  go_loop [11] (fun i => ∃ k : Nat, k ≤ l.length ∧ k ≤ r.length ∧ i = .int .i64 k ∧ cmpL cmpS l r = cmpL cmpS (l.drop k) (r.drop k)) (fun i => l.length - (intOf i).toNat)
  case atStart => exact ⟨0, by omega, by omega, rfl, rfl⟩
  case round =>
    obtain ⟨k, hk, hk2, rfl, hcmp⟩ := hrel
    have HC := Lib.hid hcmp
    clear hcmp
    by_cases hlt : k < l.length
    · obtain ⟨x, hx⟩ : ∃ x, l[k]? = some x := ⟨_, List.getElem?_eq_getElem hlt⟩
      obtain ⟨A, rfl, hcA⟩ := HA.out k (Value.string x) (by rw [List.getElem?_map, hx]; rfl)
      by_cases hlt2 : k < r.length
      · obtain ⟨y, hy⟩ : ∃ y, r[k]? = some y := ⟨_, List.getElem?_eq_getElem hlt2⟩
        obtain ⟨B, rfl, hcB⟩ := HB.out k (Value.string y) (by rw [List.getElem?_map, hy]; rfl)
        have HX := Lib.hid hx
        have HY := Lib.hid hy
        obtain ⟨q, hq⟩ : ∃ q, q = cmpS x y := ⟨_, rfl⟩
        have HQ := Lib.hid hq
        have hge : ¬ ((r.length : Int) ≤ (k : Int)) := by omega
        clear hx hy hq
        by_cases hz : q = 0
        · subst hz
          go_wp2_with (go_at_call 51; refine (cmpS_is _ _ _).mono ?_; rintro e w' ⟨rfl, rfl⟩; rw [← HQ.out])
          go_round
          case rel => exact ⟨k + 1, by omega, by omega, by go_num, HC.out.trans (cmpL_step _ HX.out HY.out HQ.out.symm)⟩
          case measure => simp [intOf]; omega
        · have hz' : (q == 0) = false := by simpa using hz
          go_wp2_with (go_at_call 51; refine (cmpS_is _ _ _).mono ?_; rintro e w' ⟨rfl, rfl⟩; rw [← HQ.out])
          go_ret
          exact ⟨by rw [HC.out, cmpL_stop _ HX.out HY.out (by rw [← HQ.out]; exact hz), ← HQ.out]; rfl, rfl⟩
      · have HX := Lib.hid hx
        have hge : ((r.length : Int) ≤ (k : Int)) := by omega
        clear hx
        go_wp2_with fail
        go_ret
        exact ⟨by rw [HC.out, cmpL_long _ hlt (by omega)]; rfl, rfl⟩
    · obtain rfl : k = l.length := by omega
      by_cases hlt2 : l.length < r.length
      · have hge : ((l.length : Int) < (r.length : Int)) := by omega
        go_wp2_with fail
        go_ret
        exact ⟨by rw [HC.out, cmpL_end _ hk2, if_pos hlt2]; rfl, rfl⟩
      · have hge : ¬ ((l.length : Int) < (r.length : Int)) := by omega
        go_wp2_with fail
        go_ret
        exact ⟨by rw [HC.out, cmpL_end _ hk2, if_neg hlt2]; rfl, rfl⟩

set_option maxHeartbeats 800000 in
theorem rowsI44 (v1 v2 : Value) (l r : List Int) (w : World) (h1 : Cells w v1 (l.map (Value.int .i64))) (h2 : Cells w v2 (r.map (Value.int .i64))) (hl : l.length ≤ 9223372036854775807) :
    Calls Try.prog 44 #[v1, v2] w fun e w' => e = .returned (.int .i64 (cmpL cmpI l r)) ∧ w' = w := by
  obtain ⟨a, c, rfl, ha⟩ := h1.slice
  obtain ⟨b, d, rfl, hb⟩ := h2.slice
  simp only [List.length_map]
  have HA := Lib.hid ha
  have HB := Lib.hid hb
  clear ha hb h1 h2
  go_enter Try.func44, Try.ntmps44
  go_wp2_with fail
  go_loop [11] (fun i => ∃ k : Nat, k ≤ l.length ∧ k ≤ r.length ∧ i = .int .i64 k ∧ cmpL cmpI l r = cmpL cmpI (l.drop k) (r.drop k)) (fun i => l.length - (intOf i).toNat)
  case atStart => exact ⟨0, by omega, by omega, rfl, rfl⟩
  case round =>
    obtain ⟨k, hk, hk2, rfl, hcmp⟩ := hrel
    have HC := Lib.hid hcmp
    clear hcmp
    by_cases hlt : k < l.length
    · obtain ⟨x, hx⟩ : ∃ x, l[k]? = some x := ⟨_, List.getElem?_eq_getElem hlt⟩
      obtain ⟨A, rfl, hcA⟩ := HA.out k ((Value.int .i64) x) (by rw [List.getElem?_map, hx]; rfl)
      by_cases hlt2 : k < r.length
      · obtain ⟨y, hy⟩ : ∃ y, r[k]? = some y := ⟨_, List.getElem?_eq_getElem hlt2⟩
        obtain ⟨B, rfl, hcB⟩ := HB.out k ((Value.int .i64) y) (by rw [List.getElem?_map, hy]; rfl)
        have HX := Lib.hid hx
        have HY := Lib.hid hy
        obtain ⟨q, hq⟩ : ∃ q, q = cmpI x y := ⟨_, rfl⟩
        have HQ := Lib.hid hq
        have hge : ¬ ((r.length : Int) ≤ (k : Int)) := by omega
        clear hx hy hq
        by_cases hz : q = 0
        · subst hz
          go_wp2_with (go_at_call 30; refine (cmpI_is _ _ _).mono ?_; rintro e w' ⟨rfl, rfl⟩; rw [← HQ.out])
          go_round
          case rel => exact ⟨k + 1, by omega, by omega, by go_num, HC.out.trans (cmpL_step _ HX.out HY.out HQ.out.symm)⟩
          case measure => simp [intOf]; omega
        · have hz' : (q == 0) = false := by simpa using hz
          go_wp2_with (go_at_call 30; refine (cmpI_is _ _ _).mono ?_; rintro e w' ⟨rfl, rfl⟩; rw [← HQ.out])
          go_ret
          exact ⟨by rw [HC.out, cmpL_stop _ HX.out HY.out (by rw [← HQ.out]; exact hz), ← HQ.out]; rfl, rfl⟩
      · have HX := Lib.hid hx
        have hge : ((r.length : Int) ≤ (k : Int)) := by omega
        clear hx
        go_wp2_with fail
        go_ret
        exact ⟨by rw [HC.out, cmpL_long _ hlt (by omega)]; rfl, rfl⟩
    · obtain rfl : k = l.length := by omega
      by_cases hlt2 : l.length < r.length
      · have hge : ((l.length : Int) < (r.length : Int)) := by omega
        go_wp2_with fail
        go_ret
        exact ⟨by rw [HC.out, cmpL_end _ hk2, if_pos hlt2]; rfl, rfl⟩
      · have hge : ¬ ((l.length : Int) < (r.length : Int)) := by omega
        go_wp2_with fail
        go_ret
        exact ⟨by rw [HC.out, cmpL_end _ hk2, if_neg hlt2]; rfl, rfl⟩

theorem rowsS (v1 v2 : Value) (l r : List ByteArray) (w : World) (h1 : Cells w v1 (l.map Value.string)) (h2 : Cells w v2 (r.map Value.string)) (hl : l.length ≤ 9223372036854775807) :
    Calls Try.prog 31 #[v1, v2] w fun e w' => e = .returned (.int .i64 (cmpL cmpS l r)) ∧ w' = w := by
  have H1 := Lib.hid h1
  have H2 := Lib.hid h2
  clear h1 h2
  go_enter Try.func31, Try.ntmps31
  go_wp2_with (go_at_call 43; refine (rowsS43 _ _ l r _ H1.out H2.out hl).mono ?_; rintro e w' ⟨rfl, rfl⟩)
  go_ret
  exact ⟨rfl, rfl⟩

theorem rowsI (v1 v2 : Value) (l r : List Int) (w : World) (h1 : Cells w v1 (l.map (Value.int .i64))) (h2 : Cells w v2 (r.map (Value.int .i64))) (hl : l.length ≤ 9223372036854775807) :
    Calls Try.prog 32 #[v1, v2] w fun e w' => e = .returned (.int .i64 (cmpL cmpI l r)) ∧ w' = w := by
  have H1 := Lib.hid h1
  have H2 := Lib.hid h2
  clear h1 h2
  go_enter Try.func32, Try.ntmps32
  go_wp2_with (go_at_call 44; refine (rowsI44 _ _ l r _ H1.out H2.out hl).mono ?_; rintro e w' ⟨rfl, rfl⟩)
  go_ret
  exact ⟨rfl, rfl⟩

/-- The first number that is not 0; 0: none. -/
def firstOf : List Int → Int
  | [] => 0
  | x :: xs => if x ≠ 0 then x else firstOf xs

set_option maxHeartbeats 800000 in
theorem or_is (v : Value) (l : List Int) (w : World) (h : Cells w v (l.map (Value.int .i64))) (hl : l.length ≤ 9223372036854775807) :
    Calls Try.prog 29 #[v] w fun e w' => e = .returned (.int .i64 (firstOf l)) ∧ w' = w := by
  obtain ⟨a, c, rfl, ha⟩ := h.slice
  simp only [List.length_map]
  have HA := Lib.hid ha
  clear ha h
  go_enter Try.func29, Try.ntmps29
  go_wp2_with fail
  go_loop [8] (fun i => ∃ k : Nat, k ≤ l.length ∧ i = .int .i64 k ∧ firstOf l = firstOf (l.drop k)) (fun i => l.length - (intOf i).toNat)
  case atStart => exact ⟨0, by omega, rfl, rfl⟩
  case round =>
    obtain ⟨k, hk, rfl, hcmp⟩ := hrel
    have HC := Lib.hid hcmp
    clear hcmp
    by_cases hlt : k < l.length
    · obtain ⟨x, hx⟩ : ∃ x, l[k]? = some x := ⟨_, List.getElem?_eq_getElem hlt⟩
      obtain ⟨A, rfl, hcA⟩ := HA.out k (.int .i64 x) (by rw [List.getElem?_map, hx]; rfl)
      have hd : l.drop k = x :: l.drop (k + 1) := by
        obtain ⟨h1, h2⟩ := List.getElem?_eq_some_iff.1 hx
        rw [List.drop_eq_getElem_cons h1, h2]
      have HD := Lib.hid hd
      clear hx hd
      by_cases hz : x = 0
      · subst hz
        go_wp2_with fail
        go_round
        case rel => exact ⟨k + 1, by omega, by go_num, HC.out.trans (by rw [HD.out, firstOf, if_neg (by simp)])⟩
        case measure => simp [intOf]; omega
      · have hz' : (x == 0) = false := by simpa using hz
        go_wp2_with fail
        go_ret
        exact ⟨by rw [HC.out, HD.out, firstOf, if_pos hz]; rfl, rfl⟩
    · obtain rfl : k = l.length := by omega
      go_wp2_with fail
      go_ret
      exact ⟨by rw [HC.out, List.drop_length]; rfl, rfl⟩

/-- A fact. -/
structure Fa where
  time : Int
  dims : List ByteArray
  meas : List Int

structure FaAt (w : World) (d m : Value) (f : Fa) : Prop where
  dims : Cells w d (f.dims.map .string)
  meas : Cells w m (f.meas.map (.int .i64))
  dl : f.dims.length ≤ 8796093022208
  ml : f.meas.length ≤ 17592186044416

def cmpF (f g : Fa) : Int := firstOf [cmpI f.time g.time, cmpL cmpS f.dims g.dims, cmpL cmpI f.meas g.meas]

/-- New blocks, and draws: nothing else. -/
def Grows (w w' : World) : Prop := ∃ q os, w' = Sort.grow (w.drewN q) os

theorem Grows.refl (w : World) : Grows w w := ⟨0, #[], by rw [Sort.grow_empty]; rfl⟩
theorem Grows.trans {a b c : World} (h : Grows a b) (k : Grows b c) : Grows a c := by
  obtain ⟨q, os, rfl⟩ := h
  obtain ⟨r, os', rfl⟩ := k
  exact ⟨q + r, os ++ os', by rw [show (Sort.grow (a.drewN q) os).drewN r = Sort.grow ((a.drewN q).drewN r) os from rfl, Sort.grow_grow, World.drewN_drewN]⟩
theorem Grows.alloc (w : World) (o : Obj) : Grows w (w.alloc o) := ⟨0, #[o], by rw [Sort.alloc_eq_grow]; rfl⟩
theorem Grows.drew (w : World) : Grows w w.drew := ⟨1, #[], by rw [Sort.grow_empty]; rfl⟩
theorem Grows.drewN (w : World) (q : Nat) : Grows w (w.drewN q) := ⟨q, #[], by simp⟩
theorem Grows.size {w w' : World} (h : Grows w w') : w.heap.size ≤ w'.heap.size := by obtain ⟨q, os, rfl⟩ := h; simp
theorem Grows.block {w w' : World} (h : Grows w w') (k : Nat) (hk : k < w.heap.size) : w'.heap[k]? = w.heap[k]? := by
  obtain ⟨q, os, rfl⟩ := h
  rw [Sort.heap_grow_old _ _ (by simpa using hk)]; simp
theorem Grows.cell {w w' : World} (h : Grows w w') {a : Addr} {v : Value} (hc : w.cell? a = some v) : w'.cell? a = some v := by
  rw [← hc]; exact World.cell?_of_block (h.block _ (World.block_lt_of_cell? w _ hc))
theorem Cells.grows {w w' : World} {v : Value} {xs : List Value} (h : Cells w v xs) (hg : Grows w w') : Cells w' v xs := by
  rcases h with h | ⟨a, c, rfl, h⟩
  · exact .inl h
  · exact .inr ⟨a, c, rfl, fun j u hu => hg.cell (h j u hu)⟩
theorem FaAt.grows {w w' : World} {d m : Value} {f : Fa} (h : FaAt w d m f) (hg : Grows w w') : FaAt w' d m f := ⟨h.dims.grows hg, h.meas.grows hg, h.dl, h.ml⟩

end Go.Proofs.Ytcbgnikbaepkaaa
