/- symMerge: one row on the right. -/
import Derived.Test.YtcbgnikbaepkaaaSb
namespace Go.Proofs.Ytcbgnikbaepkaaa
open Go.Shelf Go.RowKit Go.Lib Go.Sort Go.Proofs

theorem below_more2 {w0 : World} {d : Array (Rw w0)} {a m h : Nat} {x : Rw w0} (hs : SortedIn (ltR w0) a m d) (hhm : h < m) (hv : ltR w0 x d[h]! = false) : ∀ t, a ≤ t → t < h + 1 → ltR w0 x d[t]! = false := by
  intro t h1 h2
  have hS := swo_rows w0
  exact hS.ntrans _ _ _ hv (sorted_le hS hs h1 (by omega) hhm)

theorem above_more2 {w0 : World} {d : Array (Rw w0)} {a m h : Nat} {x : Rw w0} (hs : SortedIn (ltR w0) a m d) (hah : a ≤ h) (hv : ltR w0 x d[h]! = true) : ∀ t, h ≤ t → t < m → ltR w0 x d[t]! = true := by
  intro t h1 h2
  have hS := swo_rows w0
  by_cases hc : ltR w0 x d[t]! = true
  · exact hc
  · have hcf : ltR w0 x d[t]! = false := by simpa using hc
    have h5 : ltR w0 x d[h]! = false := hS.ntrans _ _ _ hcf (sorted_le hS hs hah h1 h2)
    exact absurd (h5.symm.trans hv) (by decide)

set_option maxHeartbeats 3200000 in
set_option maxRecDepth 100000 in
theorem symMerge_right {w0 w W : World} {blk cap : Nat} {d0 : Array (Rw w0)} (d : Array (Rw w0)) (a m : Nat) (R : RK w0 w blk d0) (hC : CL w0 w blk d0.size) (hs : d.size = d0.size) (S : SW w0 w blk d W) (ham : a + 1 < m) (hb : m + 1 ≤ d.size) (hsz : d.size < 4611686018427387904)
    (h1 : SortedIn (ltR w0) a m d) :
    Calls Try.prog 58 #[.slice (some ⟨blk, 0, none⟩) d.size cap, .int .i64 a, .int .i64 m, .int .i64 ((m : Int) + 1), .func (.func 46) #[] #[]] W (MergeIs w blk a (m + 1) d) := by
  have mixed : Try.prog.follows .mixedOrders = true := by kernel_rfl
  have HS := Lib.hid S
  have HSZ := Lib.hid hs
  have HC := Lib.hid hC
  have H1 := Lib.hid h1
  have t1 : (((m : Int) - (a : Int)) == 1) = false := by simp; omega
  have t2 : (((m : Int) + 1 - (m : Int)) == 1) = true := by simp; omega
  clear S hs hC h1
  go_enter Try.func58, Try.ntmps58
  go_wp2_with fail
  go_loopw [14, 15] (fun vi vj wr => ∃ (i j : Nat), vi = .int .i64 i ∧ vj = .int .i64 j ∧ a ≤ i ∧ i ≤ j ∧ j ≤ m ∧ Hid (SW w0 w blk d wr) ∧ Hid (∀ t, a ≤ t → t < i → ltR w0 d[m]! d[t]! = false) ∧ Hid (∀ t, j ≤ t → t < m → ltR w0 d[m]! d[t]! = true)) (fun vi vj _ => (intOf vj).toNat - (intOf vi).toNat)
  case atStart => exact ⟨a, m, rfl, rfl, Nat.le_refl _, by omega, Nat.le_refl _, HS, (show ∀ t, _ from fun t h1 h2 => by omega), (show ∀ t, _ from fun t h1 h2 => by omega)⟩
  case round =>
    obtain ⟨i, j, rfl, rfl, hi, hij, hj, HW, HL, HH⟩ := hrel
    by_cases hlt : i < j
    · have hlt2 : (i : Int) < (j : Int) := by omega
      obtain ⟨h, hh, hih, hhj⟩ : ∃ h : Nat, ((i : Int) + (j : Int)) / 2 = (h : Int) ∧ i ≤ h ∧ h < j := ⟨(i + j) / 2, by omega, by omega, by omega⟩
      have HHE := Lib.hid hh
      clear hh
      go_wp2_with fail
      rw [HHE.out]
      obtain ⟨x, hx⟩ : ∃ x, x = d[m]! := ⟨_, rfl⟩
      obtain ⟨y, hy⟩ : ∃ y, y = d[h]! := ⟨_, rfl⟩
      obtain ⟨c0, c1, c2, c3⟩ := sw_atG HW.out R HSZ.out (i := m) (by omega)
      obtain ⟨e0, e1, e2, e3⟩ := sw_atG HW.out R HSZ.out (i := h) (by omega)
      rw [← hx] at c0 c1 c2 c3
      rw [← hy] at e0 e1 e2 e3
      have hc := sw_cmp HW.out HC.out HSZ.out x y
      have p1 : (h : Int) < (d.size : Int) := by omega
      have p2 : (m : Int) < (d.size : Int) := by omega
      by_cases hv : Rw.cf x y < 0
      · have hd : decide (Rw.cf x y < 0) = true := decide_eq_true hv
        have HH2 := Lib.hid (show ∀ t, h ≤ t → t < m → ltR w0 d[m]! d[t]! = true from above_more2 H1.out (by omega) (by rw [← hx, ← hy]; exact hd))
        have HV := Lib.hid hv
        clear hx hy HH hv
        go_quiet_grown ((go_at_call 46; refine Calls.grown_of (hc _ _)))
        change Exit.then _ _ _ _ (grow (wr.drewN nq) osq)
        have HW2 := Lib.hid (HW.out.grown nq osq)
        generalize grow (wr.drewN nq) osq = w2 at HW2 ⊢
        clear c0 c1 c2 c3 e0 e1 e2 e3 hc HW
        go_wp2_with fail
        go_roundw
        case rel => exact ⟨i, h, rfl, rfl, by omega, by omega, by omega, HW2, HL, HH2⟩
        case measure => simp [intOf]; omega
      · have hd : decide (Rw.cf x y < 0) = false := decide_eq_false hv
        have HL2 := Lib.hid (show ∀ t, a ≤ t → t < h + 1 → ltR w0 d[m]! d[t]! = false from below_more2 H1.out (by omega) (by rw [← hx, ← hy]; exact hd))
        clear hx hy HL hv
        go_quiet_grown ((go_at_call 46; refine Calls.grown_of (hc _ _)))
        change Exit.then _ _ _ _ (grow (wr.drewN nq) osq)
        have HW2 := Lib.hid (HW.out.grown nq osq)
        generalize grow (wr.drewN nq) osq = w2 at HW2 ⊢
        clear c0 c1 c2 c3 e0 e1 e2 e3 hc HW
        go_wp2_with fail
        go_roundw
        case rel => exact ⟨h + 1, j, by go_num, rfl, by omega, by omega, hj, HW2, HL2, HH⟩
        case measure => simp [intOf]; omega
    · obtain rfl : i = j := by omega
      have hnlt : ¬ ((i : Int) < (i : Int)) := by omega
      go_wp2_with fail
      go_loopw [17] (fun vk wr => ∃ (k : Nat) (dk : Array (Rw w0)), vk = .int .i64 k ∧ i ≤ k ∧ k ≤ m ∧ Hid (SW w0 w blk dk wr) ∧ Hid (Down d dk k m) ∧ Hid (PermOut a (m + 1) d dk)) (fun vk _ => (intOf vk).toNat - i)
      case atStart => exact ⟨m, d, rfl, by omega, Nat.le_refl _, HW, down_zero _ _, permOut_refl _ _ _⟩
      case round =>
        obtain ⟨k, dk, rfl, hik, hkm, HW2, HU, HP⟩ := hrel
        by_cases hlt3 : i < k
        · obtain ⟨k, rfl⟩ : ∃ k', k = k' + 1 := ⟨k - 1, by omega⟩
          have hds : dk.size = d0.size := HU.out.1.trans HSZ.out
          obtain ⟨c0, c1, c2, c3, f0, f1, f2, f3⟩ := sw_at HW2.out R hds (i := k + 1) (by have := HU.out.1; omega)
          obtain ⟨e0, e1, e2, e3, g0, g1, g2, g3⟩ := sw_at HW2.out R hds (i := k) (by have := HU.out.1; omega)
          have hsw := sw_swapped HW2.out R (k + 1) k (by have := HU.out.1; omega) (by have := HU.out.1; omega)
          have U2 := Lib.hid (HU.out.step hkm (by omega))
          have P2 := Lib.hid (HP.out.swp HU.out.1 (i := k + 1) (j := k) (by omega) (by omega) (by omega) (by omega))
          generalize dk[k + 1]!.1 = x at c0 c1 c2 c3 hsw
          generalize dk[k]!.1 = y at e0 e1 e2 e3 hsw
          have HSW := Lib.hid hsw
          have p1 : (k : Int) < (d.size : Int) := by omega
          have p2 : (k : Int) + 1 < (d.size : Int) := by omega
          have p3 : ((k : Int) + 1).toNat = k + 1 := by omega
          have p4 : IntKind.i64.wrap ((k : Int) + 1) = (k : Int) + 1 := by rw [IntKind.wrap_i64]; omega
          have p6 : IntKind.i64.wrap (k : Int) = (k : Int) := by rw [IntKind.wrap_i64]; omega
          have p5 : (i : Int) < (k : Int) + 1 := by omega
          clear hsw hds HU HP
          go_wp2_with fail
          go_region
          clear c0 c1 c2 c3 f0 f1 f2 f3 e0 e1 e2 e3 g0 g1 g2 g3
          go_wp2_with fail
          go_roundw
          case rel => exact ⟨k, swp dk (k + 1) k, rfl, by omega, by omega, HSW, U2, P2⟩
          case measure => simp [intOf]; omega
        · obtain rfl : k = i := by omega
          have hfin : MergeIs w blk a (m + 1) d (.returned (.tuple #[])) wr := ⟨rfl, dk, HW2.out, HU.out.1, HP.out, down_sorted (swo_rows w0) H1.out hi hj HL.out HH.out HU.out⟩
          have HF := Lib.hid hfin
          clear hfin
          go_wp2_with fail
          go_end0
          exact HF.out

end Go.Proofs.Ytcbgnikbaepkaaa
