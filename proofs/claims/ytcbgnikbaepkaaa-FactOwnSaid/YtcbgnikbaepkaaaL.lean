/- Rows of which none is 0 times: none is struck. -/
import Derived.Test.YtcbgnikbaepkaaaK
namespace Go.Proofs.Ytcbgnikbaepkaaa
open Go.Shelf Go.RowKit Go.Lib Go.Sort Go.Proofs

theorem isZero_is (x : Ro) (w : World) : Calls Try.prog 49 #[.agg x.enc.toArray] w fun e w' => e = .returned (.bool (x.n == 0)) ∧ Grows w w' := by
  change Calls Try.prog 49 #[.agg #[.int .i64 x.f.time, x.d, x.m, .int .u64 x.n]] w _
  obtain ⟨W, hW⟩ : ∃ W, W = w.alloc (.cells #[.int .i64 x.f.time, x.d, x.m, .int .u64 x.n] 40) := ⟨_, rfl⟩
  have hG : Grows w W := by rw [hW]; exact Grows.alloc _ _
  have b0 : W.heap[w.heap.size]? = some (.cells #[.int .i64 x.f.time, x.d, x.m, .int .u64 x.n] 40 (0, 0)) := by rw [hW]; exact (MapKept.heap_alloc _ _).1
  have x3 : W.cell? ⟨w.heap.size, 3, none⟩ = some (.int .u64 x.n) := by simp only [World.cell?, b0]; rfl
  have HG := Lib.hid hG
  have HW := Lib.hid hW
  clear hG hW b0
  obtain ⟨q, hq⟩ : ∃ q, q = (x.n == 0) := ⟨_, rfl⟩
  rw [← hq]
  have HQ := Lib.hid hq
  go_enter Try.func49, Try.ntmps49
  go_wp2_with fail
  rw [← HW.out]
  go_ret
  exact ⟨by rw [HQ.out]; rfl, HG.out⟩

/-- The rows of a block. -/
theorem row_cells {w0 w : World} {blk : Nat} {d : Array (Rw w0)} (h : HoldsK (Rw.enc (w := w0)) 4 w blk 0 d) {i : Nat} (hi : i < d.size) :
    w.cell? ⟨blk, i * 4, none⟩ = some (.int .i64 d[i]!.1.f.time) ∧ w.cell? ⟨blk, i * 4 + 1, none⟩ = some d[i]!.1.d ∧ w.cell? ⟨blk, i * 4 + 2, none⟩ = some d[i]!.1.m ∧ w.cell? ⟨blk, i * 4 + 3, none⟩ = some (.int .u64 d[i]!.1.n) := by
  have h0 := HoldsK.cell h (i := i) (c := 0) hi (by decide)
  have h1 := HoldsK.cell h (i := i) (c := 1) hi (by decide)
  have h2 := HoldsK.cell h (i := i) (c := 2) hi (by decide)
  have h3 := HoldsK.cell h (i := i) (c := 3) hi (by decide)
  rw [Nat.zero_add] at h0 h1 h2 h3
  exact ⟨h0.1, h1.1, h2.1, h3.1⟩

theorem HoldsK.grows {w0 w w' : World} {blk : Nat} {d : Array (Rw w0)} (h : HoldsK (Rw.enc (w := w0)) 4 w blk 0 d) (hblk : blk < w.heap.size) (hg : Grows w w') : HoldsK (Rw.enc (w := w0)) 4 w' blk 0 d := by
  obtain ⟨q, os, rfl⟩ := hg
  exact holdsK_grow _ _ _ os blk 0 d hblk h

set_option maxHeartbeats 1600000 in
set_option maxRecDepth 100000 in
/-- No row is 0 times. -/
theorem index_none {w0 w : World} {blk cap : Nat} (d : Array (Rw w0)) (hblk : blk < w.heap.size) (hH : HoldsK (Rw.enc (w := w0)) 4 w blk 0 d) (hn : ∀ i, i < d.size → d[i]!.1.n ≠ 0) (hsz : d.size ≤ 4611686018427387904) :
    Calls Try.prog 55 #[.slice (some ⟨blk, 0, none⟩) d.size cap, .func (.func 49) #[] #[]] w fun e w' => e = .returned (.int .i64 (-1)) ∧ Grows w w' := by
  have HH := Lib.hid hH
  have HN := Lib.hid hn
  clear hH hn
  go_enter Try.func55, Try.ntmps55
  go_wp2_with fail
  go_loopw [8] (fun i wr => ∃ k : Nat, k ≤ d.size ∧ i = .int .i64 k ∧ Grows w wr) (fun i _ => d.size - (intOf i).toNat)
  case atStart => exact ⟨0, by omega, rfl, Grows.refl _⟩
  case round =>
    obtain ⟨k, hk, rfl, hgr⟩ := hrel
    have HR := Lib.hid hgr
    by_cases hlt : k < d.size
    · obtain ⟨x0, x1, x2, x3⟩ := row_cells (HoldsK.grows HH.out hblk hgr) hlt
      obtain ⟨x, hx⟩ : ∃ x, x = d[k]! := ⟨_, rfl⟩
      rw [← hx] at x0 x1 x2 x3
      have hz : (x.1.n == 0) = false := by rw [hx]; simpa using HN.out k hlt
      have hc := fun V => isZero_is x.1 V
      have HC := Lib.hid hc
      clear hgr hx hc
      go_wp2_with (go_at_call 49; refine (HC.out _).mono ?_; rintro e w' ⟨rfl, hg2⟩; have G2 := Lib.hid hg2; clear hg2)
      go_roundw
      case rel => exact ⟨k + 1, by omega, by go_num, HR.out.trans G2.out⟩
      case measure => simp [intOf]; omega
    · obtain rfl : k = d.size := by omega
      clear hgr
      go_wp2_with fail
      go_ret
      exact ⟨rfl, HR.out⟩

set_option maxHeartbeats 800000 in
theorem delete_none {w0 w : World} {blk cap : Nat} (d : Array (Rw w0)) (hblk : blk < w.heap.size) (hH : HoldsK (Rw.enc (w := w0)) 4 w blk 0 d) (hn : ∀ i, i < d.size → d[i]!.1.n ≠ 0) (hsz : d.size ≤ 4611686018427387904) :
    Calls Try.prog 48 #[.slice (some ⟨blk, 0, none⟩) d.size cap, .func (.func 49) #[] #[]] w fun e w' => e = .returned (.slice (some ⟨blk, 0, none⟩) d.size cap) ∧ Grows w w' := by
  have h := index_none (cap := cap) d hblk hH hn hsz
  have H := Lib.hid h
  clear h hH hn
  go_enter Try.func48, Try.ntmps48
  go_wp2_with (go_at_call 55; refine H.out.mono ?_; rintro e w' ⟨rfl, hg⟩; have G := Lib.hid hg; clear hg)
  go_ret
  exact ⟨rfl, G.out⟩

end Go.Proofs.Ytcbgnikbaepkaaa
