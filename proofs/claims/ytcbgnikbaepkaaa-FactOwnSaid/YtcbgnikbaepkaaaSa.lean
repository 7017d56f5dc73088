/- swapRange, walked. -/
import Derived.Test.YtcbgnikbaepkaaaSz
namespace Go.Proofs.Ytcbgnikbaepkaaa
open Go.Shelf Go.RowKit Go.Lib Go.Sort Go.Proofs

/-- Permuted within any range that holds [a, b). -/
def PermOut {α : Type} [Inhabited α] (a b : Nat) (d d' : Array α) : Prop := ∀ lo hi, lo ≤ a → b ≤ hi → hi ≤ d.size → PermIn lo hi d d'

theorem permOut_refl {α : Type} [Inhabited α] (a b : Nat) (d : Array α) : PermOut a b d d := fun _ _ _ _ _ => permIn_refl _ _ _
theorem PermOut.swp {α : Type} [Inhabited α] {a b i j : Nat} {d d' : Array α} (h : PermOut a b d d') (hs : d'.size = d.size) (hi : a ≤ i) (hib : i < b) (hj : a ≤ j) (hjb : j < b) : PermOut a b d (swp d' i j) :=
  fun lo hi' h1 h2 h3 => permIn_trans _ _ _ _ _ (h lo hi' h1 h2 h3) (swp_permIn _ _ _ _ _ (by omega) (by omega) (by omega) (by omega) (by omega))
theorem PermOut.trans {α : Type} [Inhabited α] {a b : Nat} {d d' d'' : Array α} (h : PermOut a b d d') (hs : d'.size = d.size) (k : PermOut a b d' d'') : PermOut a b d d'' :=
  fun lo hi h1 h2 h3 => permIn_trans _ _ _ _ _ (h lo hi h1 h2 h3) (k lo hi h1 h2 (by omega))
theorem PermOut.mono {α : Type} [Inhabited α] {a b a' b' : Nat} {d d' : Array α} (h : PermOut a b d d') (ha : a' ≤ a) (hb : b ≤ b') : PermOut a' b' d d' :=
  fun lo hi h1 h2 h3 => h lo hi (by omega) (by omega) h3

def SwapIs {w0 : World} (w : World) (blk a b n : Nat) (d : Array (Rw w0)) (e : Ending) (w' : World) : Prop :=
  e = .returned (.tuple #[]) ∧ ∃ d', SW w0 w blk d' w' ∧ SwapR d d' a b n ∧ PermOut a (b + n) d d'

set_option maxHeartbeats 1600000 in
set_option maxRecDepth 100000 in
theorem swapRange_is {w0 w W : World} {blk cap : Nat} {d0 : Array (Rw w0)} (d : Array (Rw w0)) (a b n : Nat) (R : RK w0 w blk d0) (hs : d.size = d0.size) (S : SW w0 w blk d W) (hab : a + n ≤ b) (hb : b + n ≤ d.size) (hsz : d.size < 4611686018427387904) :
    Calls Try.prog 60 #[.slice (some ⟨blk, 0, none⟩) d.size cap, .int .i64 a, .int .i64 b, .int .i64 n, .func (.func 46) #[] #[]] W (SwapIs w blk a b n d) := by
  have mixed : Try.prog.follows .mixedOrders = true := by kernel_rfl
  have HS := Lib.hid S
  clear S
  go_enter Try.func60, Try.ntmps60
  go_wp2_with fail
  go_loopw [10] (fun i wr => ∃ (k : Nat) (dk : Array (Rw w0)), i = .int .i64 k ∧ k ≤ n ∧ Hid (SW w0 w blk dk wr) ∧ Hid (SwapR d dk a b k) ∧ Hid (PermOut a (b + n) d dk)) (fun i _ => n - (intOf i).toNat)
  case atStart => exact ⟨0, d, rfl, by omega, HS, swapR_zero _ _ _, permOut_refl _ _ _⟩
  case round =>
    obtain ⟨k, dk, rfl, hk, HW, HR, HP⟩ := hrel
    by_cases hlt : k < n
    · have hds : dk.size = d0.size := HR.out.1.trans hs
      obtain ⟨c0, c1, c2, c3, f0, f1, f2, f3⟩ := sw_at HW.out R hds (i := a + k) (by omega)
      obtain ⟨e0, e1, e2, e3, g0, g1, g2, g3⟩ := sw_at HW.out R hds (i := b + k) (by omega)
      have hsw := sw_swapped HW.out R (a + k) (b + k) (by omega) (by omega)
      have H2 := Lib.hid (HR.out.step (k := k) (by omega) (by omega))
      have P2 := Lib.hid (HP.out.swp HR.out.1 (i := a + k) (j := b + k) (by omega) (by omega) (by omega) (by omega))
      generalize dk[a + k]!.1 = x at c0 c1 c2 c3 hsw
      generalize dk[b + k]!.1 = y at e0 e1 e2 e3 hsw
      have HSW := Lib.hid hsw
      have p1 : (0 : Int) ≤ (a : Int) + (k : Int) := by omega
      have p2 : (a : Int) + (k : Int) < (d.size : Int) := by omega
      have p3 : ((a : Int) + (k : Int)).toNat = a + k := by omega
      have p4 : IntKind.i64.wrap ((a : Int) + (k : Int)) = (a : Int) + (k : Int) := by rw [IntKind.wrap_i64]; omega
      have q1 : (0 : Int) ≤ (b : Int) + (k : Int) := by omega
      have q2 : (b : Int) + (k : Int) < (d.size : Int) := by omega
      have q3 : ((b : Int) + (k : Int)).toNat = b + k := by omega
      have q4 : IntKind.i64.wrap ((b : Int) + (k : Int)) = (b : Int) + (k : Int) := by rw [IntKind.wrap_i64]; omega
      have hlt2 : (k : Int) < (n : Int) := by omega
      clear hsw hds HR HP
      go_wp2_with fail
      go_region
      clear c0 c1 c2 c3 f0 f1 f2 f3 e0 e1 e2 e3 g0 g1 g2 g3
      go_wp2_with fail
      go_roundw
      case rel => exact ⟨k + 1, swp dk (a + k) (b + k), by go_num, by omega, HSW, H2, P2⟩
      case measure => simp [intOf]; omega
    · obtain rfl : k = n := by omega
      go_wp2_with fail
      go_end0
      exact ⟨rfl, dk, HW.out, HR.out, HP.out⟩

def RotIs {w0 : World} (w : World) (blk a m b : Nat) (d : Array (Rw w0)) (e : Ending) (w' : World) : Prop :=
  e = .returned (.tuple #[]) ∧ ∃ d', SW w0 w blk d' w' ∧ Rot d d' a m b ∧ PermOut a b d d'

theorem swapRange_any {w0 w W : World} {blk cap : Nat} {d0 : Array (Rw w0)} (d : Array (Rw w0)) (a b n : Nat) (x y z : Int) (len : Nat) (R : RK w0 w blk d0) (hs : d.size = d0.size) (S : SW w0 w blk d W) (hlen : len = d.size) (hx : x = a) (hy : y = b) (hz : z = n) (hab : a + n ≤ b) (hb : b + n ≤ d.size) (hsz : d.size < 4611686018427387904) :
    Calls Try.prog 60 #[.slice (some ⟨blk, 0, none⟩) len cap, .int .i64 x, .int .i64 y, .int .i64 z, .func (.func 46) #[] #[]] W (SwapIs w blk a b n d) := by
  subst hx hy hz hlen
  exact swapRange_is d a b n R hs S hab hb hsz

set_option maxHeartbeats 1600000 in
set_option maxRecDepth 100000 in
theorem rotate_is {w0 w W : World} {blk cap : Nat} {d0 : Array (Rw w0)} (d : Array (Rw w0)) (a m b : Nat) (R : RK w0 w blk d0) (hs : d.size = d0.size) (S : SW w0 w blk d W) (ham : a < m) (hmb : m < b) (hb : b ≤ d.size) (hsz : d.size < 4611686018427387904) :
    Calls Try.prog 59 #[.slice (some ⟨blk, 0, none⟩) d.size cap, .int .i64 a, .int .i64 m, .int .i64 b, .func (.func 46) #[] #[]] W (RotIs w blk a m b d) := by
  have HS := Lib.hid S
  have HSZ := Lib.hid hs
  clear S hs
  go_enter Try.func59, Try.ntmps59
  go_wp2_with fail
  go_loopw [10, 11] (fun vi vj wr => ∃ (i j : Nat) (dk : Array (Rw w0)), vi = .int .i64 i ∧ vj = .int .i64 j ∧ 0 < i ∧ 0 < j ∧ i + a ≤ m ∧ m + j ≤ b ∧ Hid (dk.size = d.size) ∧ Hid (SW w0 w blk dk wr) ∧ Hid (∀ d', Rot dk d' (m - i) m (m + j) → Rot d d' a m b) ∧ Hid (PermOut a b d dk)) (fun vi vj _ => (intOf vi).toNat + (intOf vj).toNat)
  case atStart =>
    refine ⟨m - a, b - m, d, by congr 1; omega, by congr 1; omega, by omega, by omega, by omega, by omega, rfl, HS, ?_, permOut_refl _ _ _⟩
    show ∀ d', _
    intro d' h
    rwa [show m - (m - a) = a by omega, show m + (b - m) = b by omega] at h
  case round =>
    obtain ⟨i, j, dk, rfl, rfl, hi, hj, hia, hjb, HDS, HW, HR, HP⟩ := hrel
    rcases Nat.lt_trichotomy i j with hlt | heq | hgt
    · have b1 : ((i : Int) == (j : Int)) = false := by simp; omega
      have b2 : ((i : Int) != (j : Int)) = true := by simp; omega
      have b3 : ¬ (j : Int) < (i : Int) := by omega
      go_wp2_with fail
      refine (swapRange_any dk (m - i) (m + j - i) i _ _ _ _ R (HDS.out.trans HSZ.out) HW.out HDS.out.symm (by omega) (by omega) (by omega) (by omega) (by rw [HDS.out]; omega) (by rw [HDS.out]; omega)).mono ?_
      rintro e w' ⟨rfl, d1, s1, s2, s3⟩
      have S1 := Lib.hid s1
      have hk := HR.out
      have H2 := Lib.hid (show ∀ d', Rot d1 d' (m - i) m (m + (j - i)) → Rot d d' a m b from fun d' h => hk d' (rot_lt s2 hlt (by omega) h))
      have D2 := Lib.hid (show d1.size = d.size from s2.1.trans HDS.out)
      have P2 := Lib.hid (HP.out.trans HDS.out (s3.mono (a' := a) (b' := b) (by omega) (by omega)))
      clear s1 s2 s3 hk HR HP
      go_wp2_with fail
      go_roundw
      case rel => exact ⟨i, j - i, d1, rfl, by congr 1; omega, by omega, by omega, by omega, by omega, D2, S1, H2, P2⟩
      case measure => simp [intOf]; omega
    · subst heq
      have b1 : ((i : Int) == (i : Int)) = true := by simp
      have b2 : ((i : Int) != (i : Int)) = false := by simp
      go_wp2_with fail
      refine (swapRange_any dk (m - i) m i _ _ _ _ R (HDS.out.trans HSZ.out) HW.out HDS.out.symm (by omega) (by omega) (by omega) (by omega) (by rw [HDS.out]; omega) (by rw [HDS.out]; omega)).mono ?_
      rintro e w' ⟨rfl, d1, s1, s2, s3⟩
      have hfin : RotIs w blk a m b d (.returned (.tuple #[])) w' := ⟨rfl, d1, s1, HR.out d1 (rot_eq s2 (by omega)), HP.out.trans HDS.out (s3.mono (a' := a) (b' := b) (by omega) (by omega))⟩
      have HF := Lib.hid hfin
      clear s1 s2 s3 hfin
      go_wp2_with fail
      go_end0
      exact HF.out
    · have b1 : ((i : Int) == (j : Int)) = false := by simp; omega
      have b2 : ((i : Int) != (j : Int)) = true := by simp; omega
      have b3 : (j : Int) < (i : Int) := by omega
      go_wp2_with fail
      refine (swapRange_any dk (m - i) m j _ _ _ _ R (HDS.out.trans HSZ.out) HW.out HDS.out.symm (by omega) (by omega) (by omega) (by omega) (by rw [HDS.out]; omega) (by rw [HDS.out]; omega)).mono ?_
      rintro e w' ⟨rfl, d1, s1, s2, s3⟩
      have S1 := Lib.hid s1
      have hk := HR.out
      have H2 := Lib.hid (show ∀ d', Rot d1 d' (m - (i - j)) m (m + j) → Rot d d' a m b from fun d' h => hk d' (rot_gt s2 hgt (by omega) h))
      have D2 := Lib.hid (show d1.size = d.size from s2.1.trans HDS.out)
      have P2 := Lib.hid (HP.out.trans HDS.out (s3.mono (a' := a) (b' := b) (by omega) (by omega)))
      clear s1 s2 s3 hk HR HP
      go_wp2_with fail
      go_roundw
      case rel => exact ⟨i - j, j, d1, by congr 1; omega, rfl, by omega, by omega, by omega, by omega, D2, S1, H2, P2⟩
      case measure => simp [intOf]; omega

end Go.Proofs.Ytcbgnikbaepkaaa
