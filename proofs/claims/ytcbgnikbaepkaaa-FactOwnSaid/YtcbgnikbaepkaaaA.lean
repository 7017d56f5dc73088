/- Rows of cells in the memory; comparing numbers, texts, rows. -/
import Derived.Test.YtcbgnikbaepkaaaProg
import Derived.WalkKit
import Derived.Lib.Hide
import Derived.BigQuiet
import Derived.Sort.Grow
import Derived.Sort.Walk0
import Derived.StillTailTactics
import Derived.Laws.Cover1
namespace Go.Proofs.Ytcbgnikbaepkaaa
open Go.RowKit

/-- v is a slice that reads as these cells. -/
def Cells (w : World) (v : Value) (xs : List Value) : Prop :=
  (v = .slice none 0 0 ∧ xs = []) ∨ ∃ a c, v = .slice (some a) xs.length c ∧ ∀ (j : Nat) (u : Value), xs[j]? = some u → w.cell? (a.add j) = some u

theorem Cells.slice {w : World} {v : Value} {xs : List Value} (h : Cells w v xs) : ∃ a c, v = .slice a xs.length c ∧ ∀ (j : Nat) (u : Value), xs[j]? = some u → ∃ A, a = some A ∧ w.cell? (A.add j) = some u := by
  rcases h with ⟨rfl, rfl⟩ | ⟨a, c, rfl, h⟩
  · exact ⟨none, 0, rfl, fun j u hu => by simp at hu⟩
  · exact ⟨some a, c, rfl, fun j u hu => ⟨a, rfl, h j u hu⟩⟩

def cmpI (a b : Int) : Int := if a < b then -1 else if b < a then 1 else 0
def cmpS (a b : ByteArray) : Int := if a.toList < b.toList then -1 else if b.toList < a.toList then 1 else 0

def cmpL {α : Type} (f : α → α → Int) : List α → List α → Int
  | [], [] => 0
  | [], _ :: _ => -1
  | _ :: _, [] => 1
  | x :: xs, y :: ys => if f x y ≠ 0 then f x y else cmpL f xs ys

theorem u8_lt_asymm : ∀ {a b : List UInt8}, a < b → ¬ b < a := fun h h' => absurd (List.lt_trans h h') (List.lt_irrefl _)
theorem u8_tri (a b : List UInt8) : a < b ∨ a = b ∨ b < a := by
  by_cases h : a < b
  · exact .inl h
  · by_cases h' : b < a
    · exact .inr (.inr h')
    · exact .inr (.inl (List.le_antisymm h' h))

theorem nanI (a : Int) (w : World) : Calls Try.prog 42 #[.int .i64 a] w fun e w' => e = .returned (.bool false) ∧ w' = w := by
  go_enter Try.func42, Try.ntmps42
  go_wp2
  go_ret
  exact ⟨rfl, rfl⟩

theorem nanS (a : ByteArray) (w : World) : Calls Try.prog 56 #[.string a] w fun e w' => e = .returned (.bool false) ∧ w' = w := by
  go_enter Try.func56, Try.ntmps56
  go_wp2
  go_ret
  exact ⟨rfl, rfl⟩

set_option maxHeartbeats 400000 in
theorem cmpI_is (a b : Int) (w : World) : Calls Try.prog 30 #[.int .i64 a, .int .i64 b] w fun e w' => e = .returned (.int .i64 (cmpI a b)) ∧ w' = w := by
  unfold cmpI
  by_cases h : a < b
  · rw [if_pos h]
    go_enter Try.func30, Try.ntmps30
    go_wp2_with (go_at_call 42; refine (nanI _ _).mono ?_; rintro e w' ⟨rfl, rfl⟩)
    go_ret
    exact ⟨rfl, rfl⟩
  · by_cases h' : b < a
    · rw [if_neg h, if_pos h']
      go_enter Try.func30, Try.ntmps30
      go_wp2_with (go_at_call 42; refine (nanI _ _).mono ?_; rintro e w' ⟨rfl, rfl⟩)
      go_ret
      exact ⟨rfl, rfl⟩
    · rw [if_neg h, if_neg h']
      go_enter Try.func30, Try.ntmps30
      go_wp2_with (go_at_call 42; refine (nanI _ _).mono ?_; rintro e w' ⟨rfl, rfl⟩)
      go_ret
      exact ⟨rfl, rfl⟩

set_option maxHeartbeats 400000 in
theorem cmpS_is (a b : ByteArray) (w : World) : Calls Try.prog 51 #[.string a, .string b] w fun e w' => e = .returned (.int .i64 (cmpS a b)) ∧ w' = w := by
  unfold cmpS
  rcases u8_tri a.toList b.toList with h | h | h
  · have hb : Op.bytesLess a.toList b.toList = true := by rw [Go.Proofs.bytesLess_eq]; simpa using h
    rw [if_pos h]
    clear h
    go_enter Try.func51, Try.ntmps51
    go_wp2_with (go_at_call 56; refine (nanS _ _).mono ?_; rintro e w' ⟨rfl, rfl⟩)
    go_ret
    exact ⟨rfl, rfl⟩
  · have h1 : ¬ a.toList < b.toList := by rw [h]; exact List.lt_irrefl _
    have h2 : ¬ b.toList < a.toList := by rw [h]; exact List.lt_irrefl _
    have hb : Op.bytesLess a.toList b.toList = false := by rw [Go.Proofs.bytesLess_eq]; simpa using h1
    have he : (a.toList == b.toList) = true := by rw [h]; exact beq_self_eq_true _
    rw [if_neg h1, if_neg h2]
    clear h h1 h2
    go_enter Try.func51, Try.ntmps51
    go_wp2_with (go_at_call 56; refine (nanS _ _).mono ?_; rintro e w' ⟨rfl, rfl⟩)

    go_ret
    exact ⟨rfl, rfl⟩
  · have h1 : ¬ a.toList < b.toList := u8_lt_asymm h
    have hne : a.toList ≠ b.toList := fun e => List.lt_irrefl _ (e ▸ h)
    have hb : Op.bytesLess a.toList b.toList = false := by rw [Go.Proofs.bytesLess_eq]; simpa using h1
    have he : (a.toList == b.toList) = false := by simpa using hne
    rw [if_neg h1, if_pos h]
    clear h h1 hne
    go_enter Try.func51, Try.ntmps51
    go_wp2_with (go_at_call 56; refine (nanS _ _).mono ?_; rintro e w' ⟨rfl, rfl⟩)
    go_ret
    exact ⟨rfl, rfl⟩

end Go.Proofs.Ytcbgnikbaepkaaa
