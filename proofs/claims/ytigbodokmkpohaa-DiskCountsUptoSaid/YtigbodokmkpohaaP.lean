/- Small numbers as texts. -/
import Derived.Test.YtigbodokmkpohaaO
namespace Go.Proofs.Ytigbodokmkpohaa
open Go.RowKit

/-- A number's digits. -/
def numL (n : Nat) : List UInt8 := if n < 10 then [UInt8.ofNat (48 + n)] else numL (n / 10) ++ [UInt8.ofNat (48 + n % 10)]

def numS (n : Nat) : ByteArray := ⟨(numL n).toArray⟩

theorem digits_at : ∀ n : Nat, n < 10 → (ByteArray.mk #[48, 49, 50, 51, 52, 53, 54, 55, 56, 57]).extract n (n + 1) = ⟨#[UInt8.ofNat (48 + n)]⟩ := by decide

theorem numS_small (n : Nat) (h : n < 10) : numS n = ⟨#[UInt8.ofNat (48 + n)]⟩ := by unfold numS numL; rw [if_pos h]

theorem numS_big (n : Nat) (h : ¬ n < 10) : numS n = numS (n / 10) ++ numS (n % 10) := by
  rw [numS_small (n % 10) (by omega)]
  unfold numS
  rw [numL, if_neg h]
  apply ByteArray.ext
  rw [ByteArray.data_append]
  simp

theorem numL_length : ∀ k n : Nat, n < 10 ^ k → n < 10 ∨ 1 ≤ k → (numL n).length ≤ max k 1 := by
  intro k
  induction k with
  | zero => intro n h _; rw [numL, if_pos (by simp at h; omega)]; simp
  | succ k ih =>
    intro n h _
    rw [numL]
    split
    · simp
    · rename_i hn
      have h1 : n / 10 < 10 ^ k := by rw [Nat.pow_succ] at h; omega
      have hk : 1 ≤ k := by
        rcases Nat.eq_zero_or_pos k with rfl | hk
        · simp at h1; omega
        · exact hk
      have := ih (n / 10) h1 (.inr hk)
      rw [List.length_append, List.length_singleton]
      omega

theorem numS_size (n : Nat) (h : n < 1000000) : (numS n).size ≤ 6 := by
  have := numL_length 6 n (by omega) (.inr (by omega))
  simpa [numS, ByteArray.size] using this

set_option maxHeartbeats 400000 in
theorem number_any (k : Nat) : ∀ (n : Nat) (w : World), n ≤ k → n < 1000000 → Calls Try.prog 8 #[.int .i64 n] w fun e w' => e = .returned (.string (numS n)) ∧ w = w' := by
  induction k with
  | zero =>
    intro n w hk hn
    have hs := digits_at n (by omega)
    have hr := numS_small n (by omega)
    have hlt : decide ((n : Int) < 10) = true := by simp; omega
    have HS := Lib.hid hs
    have HR := Lib.hid hr
    clear hs hr
    go_enter Try.func8, Try.ntmps8
    go_wp2_with fail
    go_ret
    exact ⟨by rw [HR.out, ← HS.out]; rfl, rfl⟩
  | succ k ih =>
    intro n w hk hn
    by_cases hlt : n < 10
    · have hs := digits_at n (by omega)
      have hr := numS_small n (by omega)
      have HS := Lib.hid hs
      have HR := Lib.hid hr
      clear hs hr
      go_enter Try.func8, Try.ntmps8
      go_wp2_with fail
      go_ret
      exact ⟨by rw [HR.out, ← HS.out]; rfl, rfl⟩
    · have hr := numS_big n hlt
      have z1 := numS_size (n / 10) (by omega)
      have z2 := numS_size (n % 10) (by omega)
      have HR := Lib.hid hr
      have IH := Lib.hid ih
      clear hr ih
      go_enter Try.func8, Try.ntmps8
      go_wp2_with fail
      rw [show ((n : Int) / 10) = ((n / 10 : Nat) : Int) by omega]
      refine (IH.out (n / 10) _ (by omega) (by omega)).mono ?_
      rintro e w' ⟨rfl, rfl⟩
      go_wp2_with fail
      rw [show ((n : Int) % 10) = ((n % 10 : Nat) : Int) by omega]
      refine (IH.out (n % 10) _ (by omega) (by omega)).mono ?_
      rintro e w' ⟨rfl, rfl⟩
      go_wp2_with fail
      go_ret
      exact ⟨by rw [HR.out]; rfl, rfl⟩

/-- The number that digits stand for. -/
def valL (l : List UInt8) : Nat := l.foldl (fun v c => 10 * v + (c.toNat - 48)) 0

theorem valL_numL (k : Nat) : ∀ n, n ≤ k → valL (numL n) = n := by
  induction k with
  | zero =>
    intro n h
    obtain rfl : n = 0 := by omega
    rw [numL, if_pos (by omega)]; rfl
  | succ k ih =>
    intro n h
    rw [numL]
    split
    · rename_i hn
      have : (UInt8.ofNat (48 + n)).toNat = 48 + n := by simp; omega
      simp only [valL, List.foldl_cons, List.foldl_nil, this]
      omega
    · rename_i hn
      have h1 := ih (n / 10) (by omega)
      have : (UInt8.ofNat (48 + n % 10)).toNat = 48 + n % 10 := by simp; omega
      unfold valL at h1 ⊢
      rw [List.foldl_append, h1]
      simp only [List.foldl_cons, List.foldl_nil, this]
      omega

theorem numS_inj {a b : Nat} (h : numS a = numS b) : a = b := by
  have : numL a = numL b := by
    have h2 := congrArg (fun s : ByteArray => s.data.toList) h
    simpa [numS] using h2
  rw [← valL_numL a a (Nat.le_refl _), this, valL_numL b b (Nat.le_refl _)]

theorem numL_digits (k : Nat) : ∀ n, n ≤ k → ∀ c ∈ numL n, 48 ≤ c.toNat ∧ c.toNat ≤ 57 := by
  induction k with
  | zero =>
    intro n h c hc
    obtain rfl : n = 0 := by omega
    rw [numL, if_pos (by omega)] at hc
    simp at hc
    subst hc
    decide
  | succ k ih =>
    intro n h c hc
    rw [numL] at hc
    split at hc
    · rename_i hn
      simp only [List.mem_singleton] at hc
      subst hc
      have : (UInt8.ofNat (48 + n)).toNat = 48 + n := by simp; omega
      omega
    · rename_i hn
      rcases List.mem_append.1 hc with h1 | h1
      · exact ih (n / 10) (by omega) c h1
      · simp only [List.mem_singleton] at h1
        subst h1
        have : (UInt8.ofNat (48 + n % 10)).toNat = 48 + n % 10 := by simp; omega
        omega

/-- 'f' and a number. -/
def fname (n : Nat) : ByteArray := ⟨#[102]⟩ ++ numS n

theorem fname_data (n : Nat) : (fname n).data = ((102 : UInt8) :: numL n).toArray := by
  unfold fname numS
  rw [ByteArray.data_append]
  simp

theorem fname_inj {a b : Nat} (h : fname a = fname b) : a = b := by
  have h2 := congrArg (fun s : ByteArray => s.data.toList) h
  simp only [fname_data, List.cons.injEq, true_and] at h2
  rw [← valL_numL a a (Nat.le_refl _), h2, valL_numL b b (Nat.le_refl _)]

theorem named_mk (l : List UInt8) (h0 : 0 < l.length) (h1 : l.length ≤ 64) (h : ∀ c ∈ l, 33 ≤ c.toNat ∧ c.toNat ≤ 126) : Named ⟨l.toArray⟩ := by
  refine ⟨by simpa [ByteArray.size] using h0, by simpa [ByteArray.size] using h1, fun i hi => ?_⟩
  have hi' : i < l.length := by simpa [ByteArray.size] using hi
  have e : (ByteArray.mk l.toArray)[i] = l[i] := rfl
  rw [e]
  exact h _ (List.getElem_mem _)

theorem fname_mk (n : Nat) : fname n = ⟨((102 : UInt8) :: numL n).toArray⟩ := ByteArray.ext (fname_data n)

theorem fname_named (n : Nat) (h : n < 1000000) : Named (fname n) := by
  have hl := numL_length 6 n (by omega) (.inr (by omega))
  rw [fname_mk]
  refine named_mk _ (by simp) (by simp; omega) (fun c hc => ?_)
  rcases List.mem_cons.1 hc with h1 | h1
  · rw [h1]; decide
  · have := numL_digits n n (Nat.le_refl _) _ h1
    omega

theorem fname_ne_g (n : Nat) : fname n ≠ ⟨#[103]⟩ := by
  intro h
  have h2 := congrArg (fun s : ByteArray => s.data.toList) h
  simp only [fname_data, List.cons.injEq] at h2
  exact absurd h2.1 (by decide)

end Go.Proofs.Ytigbodokmkpohaa
