/- SortStableFunc: fewer than 20 rows. -/
import Derived.Test.YtcbgnikbaepkaaaG
namespace Go.Proofs.Ytcbgnikbaepkaaa
open Go.Shelf Go.RowKit Go.Lib Go.Sort Go.Proofs

set_option maxHeartbeats 800000 in
theorem stable_small {w0 w : World} {blk cap : Nat} (d : Array (Rw w0)) (hk : Kept w0 w) (h0 : w0.heap.size ≤ blk) (hblk : blk < w.heap.size) (hH : HoldsK (Rw.enc (w := w0)) 4 w blk 0 d) (hn : d.size < 20) :
    Calls Try.prog 52 #[.slice (some ⟨blk, 0, none⟩) d.size cap, .int .i64 d.size, .func (.func 46) #[] #[]] w fun e w' =>
      e = .returned (.tuple #[]) ∧ ∃ n os, w' = sortWorldK (Rw.enc (w := w0)) 4 w blk 0 n (Sort.insertionSort (ltOf Rw.cf) d 0 d.size) os := by
  have h := insertion_is (cap := cap) (a := 0) (b := d.size) d hk h0 hblk hH (Nat.zero_le _) (Nat.le_refl _) (by omega)
  have H := Lib.hid h
  have n1 : ¬ (20 : Int) ≤ (d.size : Int) := by omega
  have n2 : ¬ (20 : Int) < (d.size : Int) := by omega
  clear h hk hH
  go_enter Try.func52, Try.ntmps52
  go_wp2_with fail
  refine wp_loop_rounds 1 ?_
  rw [rounds_succ]
  go_wp2_with (go_at_call 57; refine H.out.mono ?_; rintro e w1 ⟨rfl, n, os, hw⟩; have HW := Lib.hid hw; clear hw)
  refine wp_loop_rounds 1 ?_
  rw [rounds_succ]
  go_wp2_with fail
  go_end0
  exact ⟨rfl, n, os, HW.out⟩

set_option maxHeartbeats 800000 in
theorem sort_small {w0 w : World} {blk cap : Nat} (d : Array (Rw w0)) (hk : Kept w0 w) (h0 : w0.heap.size ≤ blk) (hblk : blk < w.heap.size) (hH : HoldsK (Rw.enc (w := w0)) 4 w blk 0 d) (hn : d.size < 20) :
    Calls Try.prog 45 #[.slice (some ⟨blk, 0, none⟩) d.size cap, .func (.func 46) #[] #[]] w fun e w' =>
      e = .returned (.tuple #[]) ∧ ∃ n os, w' = sortWorldK (Rw.enc (w := w0)) 4 w blk 0 n (Sort.insertionSort (ltOf Rw.cf) d 0 d.size) os := by
  have h := stable_small (cap := cap) d hk h0 hblk hH hn
  have H := Lib.hid h
  clear h hk hH
  go_enter Try.func45, Try.ntmps45
  go_wp2_with (go_at_call 52; refine H.out.mono ?_; rintro e w1 ⟨rfl, n, os, hw⟩; have HW := Lib.hid hw; clear hw)
  go_end0
  exact ⟨rfl, n, os, HW.out⟩

end Go.Proofs.Ytcbgnikbaepkaaa
