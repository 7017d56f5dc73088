/- Schemas and facts, looked at. -/
import Derived.Test.YtcbgnikbaepkaaaD
namespace Go.Proofs.Ytcbgnikbaepkaaa
open Go.RowKit

def fineB (a b : Int) : Bool := decide (0 ≤ a) && decide (a ≤ 8) && decide (0 ≤ b) && decide (b ≤ 8)

def scV (a b : Int) : Value := .agg #[.int .i64 a, .int .i64 b]

set_option maxHeartbeats 400000 in
theorem refFine_is (a b : Int) (w : World) : Calls Try.prog 10 #[scV a b] w fun e w' => e = .returned (.bool (fineB a b)) ∧ Grows w w' := by
  unfold scV
  have hG := Grows.alloc w (.cells #[.int .i64 a, .int .i64 b] 23)
  have HG := Lib.hid hG
  clear hG
  have key : fineB a b = true ∧ 0 ≤ a ∧ a ≤ 8 ∧ 0 ≤ b ∧ b ≤ 8 ∨ fineB a b = false ∧ (¬ 0 ≤ a ∨ 0 ≤ a ∧ ¬ a ≤ 8 ∨ 0 ≤ a ∧ a ≤ 8 ∧ ¬ 0 ≤ b ∨ 0 ≤ a ∧ a ≤ 8 ∧ 0 ≤ b ∧ ¬ b ≤ 8) := by
    unfold fineB
    by_cases h1 : 0 ≤ a <;> by_cases h2 : a ≤ 8 <;> by_cases h3 : 0 ≤ b <;> by_cases h4 : b ≤ 8 <;> simp [h1, h2, h3, h4]
  rcases key with ⟨hv, h1, h2, h3, h4⟩ | ⟨hv, h1 | ⟨h1, h2⟩ | ⟨h1, h2, h3⟩ | ⟨h1, h2, h3, h4⟩⟩
  all_goals
    rw [hv]
    clear hv
    go_enter Try.func10, Try.ntmps10
    go_wp2_with fail
    go_ret
    exact ⟨rfl, HG.out⟩

set_option maxHeartbeats 400000 in
theorem fine_is (a b : Int) (w : World) : Calls Try.prog 11 #[scV a b] w fun e w' => e = .returned (.int .i64 (if fineB a b then 0 else 1)) ∧ Grows w w' := by
  unfold scV
  have hG := Grows.alloc w (.cells #[.int .i64 a, .int .i64 b] 23)
  have HG := Lib.hid hG
  clear hG
  have key : (if fineB a b then (0 : Int) else 1) = 0 ∧ 0 ≤ a ∧ a ≤ 8 ∧ 0 ≤ b ∧ b ≤ 8 ∨ (if fineB a b then (0 : Int) else 1) = 1 ∧ (a < 0 ∨ ¬ a < 0 ∧ 8 < a ∨ ¬ a < 0 ∧ ¬ 8 < a ∧ b < 0 ∨ ¬ a < 0 ∧ ¬ 8 < a ∧ ¬ b < 0 ∧ 8 < b) := by
    unfold fineB
    by_cases h1 : 0 ≤ a <;> by_cases h2 : a ≤ 8 <;> by_cases h3 : 0 ≤ b <;> by_cases h4 : b ≤ 8 <;> simp [h1, h2, h3, h4] <;> omega
  rcases key with ⟨hv, h1, h2, h3, h4⟩ | ⟨hv, h1 | ⟨h1, h2⟩ | ⟨h1, h2, h3⟩ | ⟨h1, h2, h3, h4⟩⟩
  all_goals
    rw [hv]
    clear hv
    go_enter Try.func11, Try.ntmps11
    go_wp2_with fail
    go_ret
    exact ⟨rfl, HG.out⟩

theorem long_is (s : ByteArray) (w : World) : Calls Try.prog 27 #[.string s] w fun e w' => e = .returned (.bool (decide (64 < s.size))) ∧ w' = w := by
  have h : decide (64 < (s.size : Int)) = decide (64 < s.size) := by
    by_cases h : 64 < s.size
    · simp [h]; omega
    · simp [h]; omega
  have H := Lib.hid h
  clear h
  go_enter Try.func27, Try.ntmps27
  go_wp2_with fail
  go_ret
  exact ⟨by rw [← H.out]; rfl, rfl⟩

/-- Is one of the texts too long? -/
def anyLong (l : List ByteArray) : Bool := l.any fun s => decide (64 < s.size)

set_option maxHeartbeats 800000 in
theorem indexLong_is (v : Value) (l : List ByteArray) (w : World) (h : Cells w v (l.map Value.string)) (hl : l.length ≤ 9223372036854775807) :
    Calls Try.prog 41 #[v, .func (.func 27) #[] #[]] w fun e w' => ∃ i : Int, e = .returned (.int .i64 i) ∧ decide (0 ≤ i) = anyLong l ∧ w' = w := by
  obtain ⟨a, c, rfl, ha⟩ := h.slice
  simp only [List.length_map]
  have HA := Lib.hid ha
  clear ha h
  go_enter Try.func41, Try.ntmps41
  go_wp2_with fail
  go_loop [8] (fun i => ∃ k : Nat, k ≤ l.length ∧ i = .int .i64 k ∧ anyLong l = anyLong (l.drop k)) (fun i => l.length - (intOf i).toNat)
  case atStart => exact ⟨0, by omega, rfl, rfl⟩
  case round =>
    obtain ⟨k, hk, rfl, hcmp⟩ := hrel
    have HC := Lib.hid hcmp
    clear hcmp
    by_cases hlt : k < l.length
    · obtain ⟨x, hx⟩ : ∃ x, l[k]? = some x := ⟨_, List.getElem?_eq_getElem hlt⟩
      obtain ⟨A, rfl, hcA⟩ := HA.out k (.string x) (by rw [List.getElem?_map, hx]; rfl)
      have hd : l.drop k = x :: l.drop (k + 1) := by
        obtain ⟨h1, h2⟩ := List.getElem?_eq_some_iff.1 hx
        rw [List.drop_eq_getElem_cons h1, h2]
      have HD := Lib.hid hd
      clear hx hd
      obtain ⟨q, hq⟩ : ∃ q, q = decide (64 < x.size) := ⟨_, rfl⟩
      have HQ := Lib.hid hq
      clear hq
      cases q
      · go_wp2_with (go_at_call 27; refine (long_is _ _).mono ?_; rintro e w' ⟨rfl, rfl⟩; rw [← HQ.out])
        go_round
        case rel => exact ⟨k + 1, by omega, by go_num, HC.out.trans (by rw [HD.out, anyLong, List.any_cons, ← HQ.out]; rfl)⟩
        case measure => simp [intOf]; omega
      · go_wp2_with (go_at_call 27; refine (long_is _ _).mono ?_; rintro e w' ⟨rfl, rfl⟩; rw [← HQ.out])
        go_ret
        exact ⟨k, rfl, by rw [HC.out, HD.out, anyLong, List.any_cons, ← HQ.out]; simp, rfl⟩
    · obtain rfl : k = l.length := by omega
      go_wp2_with fail
      go_ret
      exact ⟨-1, rfl, by rw [HC.out, List.drop_length]; rfl, rfl⟩

theorem containsLong_is (v : Value) (l : List ByteArray) (w : World) (h : Cells w v (l.map Value.string)) (hl : l.length ≤ 9223372036854775807) :
    Calls Try.prog 28 #[v, .func (.func 27) #[] #[]] w fun e w' => e = .returned (.bool (anyLong l)) ∧ w' = w := by
  have H := Lib.hid h
  clear h
  go_enter Try.func28, Try.ntmps28
  go_wp2_with (go_at_call 41; refine (indexLong_is _ l _ H.out hl).mono ?_; rintro e w' ⟨i, rfl, hi, rfl⟩; have HI := Lib.hid hi; clear hi)
  go_ret
  exact ⟨by rw [← HI.out]; rfl, rfl⟩

end Go.Proofs.Ytcbgnikbaepkaaa
