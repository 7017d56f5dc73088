/- symMerge: one row on the left. -/
import Derived.Test.YtcbgnikbaepkaaaSa
namespace Go.Proofs.Ytcbgnikbaepkaaa
open Go.Shelf Go.RowKit Go.Lib Go.Sort Go.Proofs

abbrev ltR (w0 : World) : Rw w0 → Rw w0 → Bool := ltOf (Rw.cf (w := w0))

/-- The four cells of a row, in every world that is w with draws and new blocks. -/
structure At4G (W : World) (blk i : Nat) (x : Ro) : Prop where
  c0 : ∀ n os, (grow (W.drewN n) os).cell? ⟨blk, i * 4, none⟩ = some (.int .i64 x.f.time)
  c1 : ∀ n os, (grow (W.drewN n) os).cell? ⟨blk, i * 4 + 1, none⟩ = some (.slice x.da x.dn x.dc)
  c2 : ∀ n os, (grow (W.drewN n) os).cell? ⟨blk, i * 4 + 2, none⟩ = some (.slice x.ma x.mn x.mc)
  c3 : ∀ n os, (grow (W.drewN n) os).cell? ⟨blk, i * 4 + 3, none⟩ = some (.int .u64 x.n)

theorem sw_atG {w0 w W : World} {blk : Nat} {d0 dk : Array (Rw w0)} (h : SW w0 w blk dk W) (R : RK w0 w blk d0) (hs : dk.size = d0.size) {i : Nat} (hi : i < dk.size) : At4G W blk i dk[i]!.1 :=
  ⟨fun n os => (sw_at (h.grown n os) R hs hi).c0, fun n os => (sw_at (h.grown n os) R hs hi).c1, fun n os => (sw_at (h.grown n os) R hs hi).c2, fun n os => (sw_at (h.grown n os) R hs hi).c3⟩

abbrev CL (w0 w : World) (blk size : Nat) : Prop := CmpLays Try.prog 46 #[] (Rw.enc (w := w0)) 4 Rw.cf blk 0 size w

theorem sw_cmp {w0 w W : World} {blk : Nat} {d0 dk : Array (Rw w0)} (h : SW w0 w blk dk W) (hC : CL w0 w blk d0.size) (hs : dk.size = d0.size) (x y : Rw w0) (n : Nat) (os : Array Obj) :
    Calls Try.prog 46 #[.agg #[.int .i64 x.1.f.time, .slice x.1.da x.1.dn x.1.dc, .slice x.1.ma x.1.mn x.1.mc, .int .u64 x.1.n], .agg #[.int .i64 y.1.f.time, .slice y.1.da y.1.dn y.1.dc, .slice y.1.ma y.1.mn y.1.mc, .int .u64 y.1.n]] (grow (W.drewN n) os)
      fun e w' => e = .returned (.int .i64 (Rw.cf x y)) ∧ ∃ q os', w' = grow ((grow (W.drewN n) os).drewN q) os' :=
  h.cmp hC hs x y n os

def MergeIs {w0 : World} (w : World) (blk a b : Nat) (d : Array (Rw w0)) (e : Ending) (w' : World) : Prop :=
  e = .returned (.tuple #[]) ∧ ∃ d', SW w0 w blk d' w' ∧ d'.size = d.size ∧ PermOut a b d d' ∧ SortedIn (ltR w0) a b d'

theorem below_more {w0 : World} {d : Array (Rw w0)} {lo b h i : Nat} {y : Rw w0} (hs : SortedIn (ltR w0) lo b d) (hi : lo ≤ i) (hhb : h < b) (hl : ∀ t, lo ≤ t → t < i → ltR w0 d[t]! y = true) (hv : ltR w0 d[h]! y = true) : ∀ t, lo ≤ t → t < h + 1 → ltR w0 d[t]! y = true := by
  intro t h1 h2
  rcases Nat.lt_or_ge t h with h3 | h3
  · have hS := swo_rows w0
    have := hs t h h1 h3 hhb
    by_cases hc : ltR w0 d[t]! y = true
    · exact hc
    · have hcf : ltR w0 d[t]! y = false := by simpa using hc
      have h5 : ltR w0 d[h]! y = false := hS.ntrans _ _ _ this hcf
      exact absurd (h5.symm.trans hv) (by decide)
  · obtain rfl : t = h := by omega
    exact hv

theorem above_more {w0 : World} {d : Array (Rw w0)} {lo b h : Nat} {y : Rw w0} (hs : SortedIn (ltR w0) lo b d) (hlo : lo ≤ h) (hhb : h < b) (hv : ltR w0 d[h]! y = false) : ∀ t, h ≤ t → t < b → ltR w0 d[t]! y = false := by
  intro t h1 h2
  have hS := swo_rows w0
  exact hS.ntrans _ _ _ (sorted_le hS hs hlo h1 h2) hv

set_option maxHeartbeats 3200000 in
set_option maxRecDepth 100000 in
theorem symMerge_left {w0 w W : World} {blk cap : Nat} {d0 : Array (Rw w0)} (d : Array (Rw w0)) (a b : Nat) (R : RK w0 w blk d0) (hC : CL w0 w blk d0.size) (hs : d.size = d0.size) (S : SW w0 w blk d W) (hmb : a + 1 < b) (hb : b ≤ d.size) (hsz : d.size < 4611686018427387904)
    (h2 : SortedIn (ltR w0) (a + 1) b d) :
    Calls Try.prog 58 #[.slice (some ⟨blk, 0, none⟩) d.size cap, .int .i64 a, .int .i64 ((a : Int) + 1), .int .i64 b, .func (.func 46) #[] #[]] W (MergeIs w blk a b d) := by
  have mixed : Try.prog.follows .mixedOrders = true := by kernel_rfl
  have HS := Lib.hid S
  have HSZ := Lib.hid hs
  have HC := Lib.hid hC
  have H2 := Lib.hid h2
  have t1 : (((a : Int) + 1 - (a : Int)) == 1) = true := by simp; omega
  have t2 : ((1 : Int) == 1) = true := rfl
  clear S hs hC h2
  go_enter Try.func58, Try.ntmps58
  go_wp2_with fail
  go_loopw [10, 11] (fun vi vj wr => ∃ (i j : Nat), vi = .int .i64 i ∧ vj = .int .i64 j ∧ a + 1 ≤ i ∧ i ≤ j ∧ j ≤ b ∧ Hid (SW w0 w blk d wr) ∧ Hid (∀ t, a + 1 ≤ t → t < i → ltR w0 d[t]! d[a]! = true) ∧ Hid (∀ t, j ≤ t → t < b → ltR w0 d[t]! d[a]! = false)) (fun vi vj _ => (intOf vj).toNat - (intOf vi).toNat)
  case atStart => exact ⟨a + 1, b, by go_num, rfl, Nat.le_refl _, by omega, Nat.le_refl _, HS, (show ∀ t, _ from fun t h1 h2 => by omega), (show ∀ t, _ from fun t h1 h2 => by omega)⟩
  case round =>
    obtain ⟨i, j, rfl, rfl, hi, hij, hj, HW, HL, HH⟩ := hrel
    by_cases hlt : i < j
    · have hlt2 : (i : Int) < (j : Int) := by omega
      obtain ⟨h, hh, hih, hhj⟩ : ∃ h : Nat, ((i : Int) + (j : Int)) / 2 = (h : Int) ∧ i ≤ h ∧ h < j := ⟨(i + j) / 2, by omega, by omega, by omega⟩
      have HHE := Lib.hid hh
      clear hh
      go_wp2_with fail
      rw [HHE.out]
      obtain ⟨x, hx⟩ : ∃ x, x = d[h]! := ⟨_, rfl⟩
      obtain ⟨y, hy⟩ : ∃ y, y = d[a]! := ⟨_, rfl⟩
      obtain ⟨c0, c1, c2, c3⟩ := sw_atG HW.out R HSZ.out (i := h) (by omega)
      obtain ⟨e0, e1, e2, e3⟩ := sw_atG HW.out R HSZ.out (i := a) (by omega)
      rw [← hx] at c0 c1 c2 c3
      rw [← hy] at e0 e1 e2 e3
      have hc := sw_cmp HW.out HC.out HSZ.out x y
      have p1 : (h : Int) < (d.size : Int) := by omega
      have p2 : (a : Int) < (d.size : Int) := by omega
      by_cases hv : Rw.cf x y < 0
      · have hd : decide (Rw.cf x y < 0) = true := decide_eq_true hv
        have HL2 := Lib.hid (show ∀ t, a + 1 ≤ t → t < h + 1 → ltR w0 d[t]! d[a]! = true from below_more H2.out hi (by omega) HL.out (by rw [← hx, ← hy]; exact hd))
        have HV := Lib.hid hv
        clear hx hy HL hv
        go_quiet_grown ((go_at_call 46; refine Calls.grown_of (hc _ _)))
        change Exit.then _ _ _ _ (grow (wr.drewN nq) osq)
        have HW2 := Lib.hid (HW.out.grown nq osq)
        generalize grow (wr.drewN nq) osq = w2 at HW2 ⊢
        clear c0 c1 c2 c3 e0 e1 e2 e3 hc HW
        go_wp2_with fail
        go_roundw
        case rel => exact ⟨h + 1, j, by go_num, rfl, by omega, by omega, hj, HW2, HL2, HH⟩
        case measure => simp [intOf]; omega
      · have hd : decide (Rw.cf x y < 0) = false := decide_eq_false hv
        have HH2 := Lib.hid (show ∀ t, h ≤ t → t < b → ltR w0 d[t]! d[a]! = false from above_more H2.out (by omega) (by omega) (by rw [← hx, ← hy]; exact hd))
        clear hx hy HH hv
        go_quiet_grown ((go_at_call 46; refine Calls.grown_of (hc _ _)))
        change Exit.then _ _ _ _ (grow (wr.drewN nq) osq)
        have HW2 := Lib.hid (HW.out.grown nq osq)
        generalize grow (wr.drewN nq) osq = w2 at HW2 ⊢
        clear c0 c1 c2 c3 e0 e1 e2 e3 hc HW
        go_wp2_with fail
        go_roundw
        case rel => exact ⟨i, h, rfl, rfl, by omega, by omega, by omega, HW2, HL, HH2⟩
        case measure => simp [intOf]; omega
    · obtain rfl : i = j := by omega
      obtain ⟨i, rfl⟩ : ∃ i', i = i' + 1 := ⟨i - 1, by omega⟩
      have hnlt : ¬ ((i : Int) + 1 < (i : Int) + 1) := by omega
      go_wp2_with fail
      go_loopw [13] (fun vk wr => ∃ (k : Nat) (dk : Array (Rw w0)), vk = .int .i64 k ∧ a ≤ k ∧ k ≤ i ∧ Hid (SW w0 w blk dk wr) ∧ Hid (Up d dk a k) ∧ Hid (PermOut a b d dk)) (fun vk _ => i - (intOf vk).toNat)
      case atStart => exact ⟨a, d, rfl, Nat.le_refl _, by omega, HW, up_zero _ _, permOut_refl _ _ _⟩
      case round =>
        obtain ⟨k, dk, rfl, hak, hki, HW2, HU, HP⟩ := hrel
        by_cases hlt3 : k < i
        · have hds : dk.size = d0.size := HU.out.1.trans HSZ.out
          obtain ⟨c0, c1, c2, c3, f0, f1, f2, f3⟩ := sw_at HW2.out R hds (i := k) (by have := HU.out.1; omega)
          obtain ⟨e0, e1, e2, e3, g0, g1, g2, g3⟩ := sw_at HW2.out R hds (i := k + 1) (by have := HU.out.1; omega)
          have hsw := sw_swapped HW2.out R k (k + 1) (by have := HU.out.1; omega) (by have := HU.out.1; omega)
          have U2 := Lib.hid (HU.out.step hak (by omega))
          have P2 := Lib.hid (HP.out.swp HU.out.1 (i := k) (j := k + 1) (by omega) (by omega) (by omega) (by omega))
          generalize dk[k]!.1 = x at c0 c1 c2 c3 hsw
          generalize dk[k + 1]!.1 = y at e0 e1 e2 e3 hsw
          have HSW := Lib.hid hsw
          have p1 : (k : Int) < (d.size : Int) := by omega
          have p2 : (k : Int) + 1 < (d.size : Int) := by omega
          have p3 : ((k : Int) + 1).toNat = k + 1 := by omega
          have p4 : IntKind.i64.wrap ((k : Int) + 1) = (k : Int) + 1 := by rw [IntKind.wrap_i64]; omega
          have p5 : (k : Int) < (i : Int) := by omega
          clear hsw hds HU HP
          go_wp2_with fail
          go_region
          clear c0 c1 c2 c3 f0 f1 f2 f3 e0 e1 e2 e3 g0 g1 g2 g3
          go_wp2_with fail
          go_roundw
          case rel => exact ⟨k + 1, swp dk k (k + 1), by go_num, by omega, by omega, HSW, U2, P2⟩
          case measure => simp [intOf]; omega
        · obtain rfl : k = i := by omega
          have hfin : MergeIs w blk a b d (.returned (.tuple #[])) wr := ⟨rfl, dk, HW2.out, HU.out.1, HP.out, up_sorted (swo_rows w0) H2.out hi hj HL.out HH.out HU.out⟩
          have HF := Lib.hid hfin
          clear hfin
          go_wp2_with fail
          go_end0
          exact HF.out

end Go.Proofs.Ytcbgnikbaepkaaa
