/- First walks of the disk's small functions. -/
import Derived.Test.YtigbodokmkpohaaProg
import Derived.WalkKit
import Derived.WalkLawsBesides
import Derived.BigQuiet
import Derived.Deep.QuietTactic
import Derived.Lib.Hide
namespace Go.Proofs.Ytigbodokmkpohaa
open Go.RowKit

theorem abs_nonneg (n : Int) (w : World) (h : 0 ≤ n) (h2 : n ≤ 9223372036854775807) :
    Calls Try.prog 9 #[.int .i64 n] w fun e w' => e = .returned (.int .i64 n) ∧ w = w' := by
  go_enter Try.func9, Try.ntmps9
  go_wp2
  go_ret
  exact ⟨rfl, rfl⟩

theorem abs_neg (n : Int) (w : World) (h : n < 0) (h2 : -9223372036854775808 ≤ n) :
    Calls Try.prog 9 #[.int .i64 n] w fun e w' => e = .returned (.int .i64 (-(n + 1))) ∧ w = w' := by
  go_enter Try.func9, Try.ntmps9
  go_wp2
  go_ret
  exact ⟨rfl, rfl⟩

/-- A text that may be a name: each byte from 33 to 126, from 1 to 64 of them. -/
def Named (s : ByteArray) : Prop := 0 < s.size ∧ s.size ≤ 64 ∧ ∀ i, (h : i < s.size) → 33 ≤ (s[i]).toNat ∧ (s[i]).toNat ≤ 126

set_option maxHeartbeats 400000 in
theorem named_yes (s : ByteArray) (w : World) (hs : Named s) :
    Calls Try.prog 32 #[.string s] w fun e w' => e = .returned (.bool true) ∧ w = w' := by
  obtain ⟨h0, h1, h2⟩ := hs
  have H2 := Lib.hid h2
  clear h2
  have g0 : decide ((0 : Int) < (s.size : Int)) = true := by simp; omega
  have g1 : decide ((s.size : Int) ≤ 64) = true := by simp; omega
  go_enter Try.func32, Try.ntmps32
  go_wp2
  go_loop [6] (fun i => ∃ k : Nat, k ≤ s.size ∧ i = .int .i64 k) (fun i => s.size - (intOf i).toNat)
  case atStart => exact ⟨0, Nat.zero_le _, rfl⟩
  case round =>
    obtain ⟨k, hk, rfl⟩ := hrel
    by_cases hlt : k < s.size
    · obtain ⟨a, b⟩ := H2.out k hlt
      go_wp2
      all_goals
        go_round
        case rel => exact ⟨k + 1, by omega, by go_num⟩
        case measure => simp [intOf]; omega
    · go_wp2
      go_ret
      exact ⟨rfl, rfl⟩

theorem refused1_yes (s : ByteArray) (w : World) (hs : Named s) :
    Calls Try.prog 31 #[.string s] w fun e w' => e = .returned (.bool false) ∧ w = w' := by
  go_enter Try.func31, Try.ntmps31
  go_wp2_with (go_at_call 32; refine (named_yes s _ hs).mono ?_; rintro e w' ⟨rfl, rfl⟩)
  go_ret
  exact ⟨rfl, rfl⟩

theorem index_yes (b o n c : Nat) (f : Nat → ByteArray) (w : World) (hn : n ≤ 9) (hs : ∀ i, i < n → Named (f i)) (hc : ∀ i, i < n → w.cell? ⟨b, o + i, none⟩ = some (.string (f i))) :
    Calls Try.prog 34 #[.slice (some ⟨b, o, none⟩) n c, .func (.func 31) #[] #[]] w fun e w' => e = .returned (.int .i64 (-1)) ∧ w = w' := by
  have HS := Lib.hid hs
  have HC := Lib.hid hc
  clear hs hc
  go_enter Try.func34, Try.ntmps34
  go_wp2_with fail
  go_loop [8] (fun i => ∃ k : Nat, k ≤ n ∧ i = .int .i64 k) (fun i => n - (intOf i).toNat)
  case atStart => exact ⟨0, Nat.zero_le _, rfl⟩
  case round =>
    obtain ⟨k, hk, rfl⟩ := hrel
    by_cases hlt : k < n
    · have hck := HC.out k hlt
      go_wp2_with (go_at_call 31; refine (refused1_yes _ _ (HS.out k hlt)).mono ?_; rintro e w' ⟨rfl, rfl⟩)
      go_round
      case rel => exact ⟨k + 1, by omega, by go_num⟩
      case measure => simp [intOf]; omega
    · go_wp2_with fail
      go_ret
      exact ⟨rfl, rfl⟩

theorem contains_no (b o n c : Nat) (f : Nat → ByteArray) (w : World) (hn : n ≤ 9) (hs : ∀ i, i < n → Named (f i)) (hc : ∀ i, i < n → w.cell? ⟨b, o + i, none⟩ = some (.string (f i))) :
    Calls Try.prog 30 #[.slice (some ⟨b, o, none⟩) n c, .func (.func 31) #[] #[]] w fun e w' => e = .returned (.bool false) ∧ w = w' := by
  have HS := Lib.hid hs
  have HC := Lib.hid hc
  clear hs hc
  go_enter Try.func30, Try.ntmps30
  go_wp2_with (go_at_call 34; refine (index_yes b o n c f _ hn HS.out HC.out).mono ?_; rintro e w' ⟨rfl, rfl⟩)
  go_ret
  exact ⟨rfl, rfl⟩

end Go.Proofs.Ytigbodokmkpohaa
