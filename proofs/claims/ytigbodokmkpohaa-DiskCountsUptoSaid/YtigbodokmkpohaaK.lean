/- Sync's own step. -/
import Derived.Test.YtigbodokmkpohaaJ
import Derived.StillTailTactics
namespace Go.Proofs.Ytigbodokmkpohaa
open Go.RowKit

set_option maxHeartbeats 400000 in
theorem sync_step (B F : Nat) (a : Option Addr) (n c : Nat) (x1 : Value) (w : World) (hn : n ≤ 9223372036854775807) (hB : w.heap[B]? = some (.cells #[.pointer (some ⟨F, 0, none⟩)] 51 (0, 0))) (hF : w.heap[F]? = some (.cells #[.slice a n c, x1] 53 (0, 0))) :
    Calls Try.prog 28 #[.pointer (some ⟨B, 0, none⟩)] w fun e w' => e = .returned (.tuple #[]) ∧ ∃ q, w' = (w.setCell ⟨F, 1, none⟩ (.int .i64 n)).drewN q := by
  have cB : w.cell? ⟨B, 0, none⟩ = some (.pointer (some ⟨F, 0, none⟩)) := by simp [World.cell?, hB]
  have cF : w.cell? ⟨F, 0, none⟩ = some (.slice a n c) := by simp [World.cell?, hF]
  have cF1 : w.cell? ⟨F, 1, none⟩ = some x1 := by simp [World.cell?, hF]
  have fF1 : w.frozen? ⟨F, 1, none⟩ = false := by simp [World.frozen?, hF]
  clear hB hF
  go_enter Try.func28, Try.ntmps28
  go_wp2_with fail
  go_still_tail 8, (by kernel_rfl)
  change wpList _ _ _ _ _ w.drew
  go_wp2_with fail
  go_end0
  exact ⟨rfl, 1, rfl⟩

set_option maxHeartbeats 400000 in
theorem remove_step (B1 B2 D M n : Nat) (x1 x2 x3 x4 : Value) (s : ByteArray) (f : ByteArray → Option Value) (w : World) (h1 : w.heap[B1]? = some (.cells #[.pointer (some ⟨D, 0, none⟩)] 24 (0, 0))) (h2 : w.heap[B2]? = some (.cells #[.string s] 9 (0, 0)))
    (hD : w.heap[D]? = some (.cells #[.map (some M), x1, x2, x3, x4] 49 (0, 0))) (hm : HasMap w M n f) :
    Calls Try.prog 23 #[.pointer (some ⟨B1, 0, none⟩), .pointer (some ⟨B2, 0, none⟩)] w fun e w' => e = .returned (.tuple #[]) ∧ HasMap w' M (delCount (f s) n) (upd f s none) ∧ w.grownBy w' (some M) ∧ w'.heap.size = w.heap.size := by
  have c1 : w.cell? ⟨B1, 0, none⟩ = some (.pointer (some ⟨D, 0, none⟩)) := by simp [World.cell?, h1]
  have c2 : w.cell? ⟨B2, 0, none⟩ = some (.string s) := by simp [World.cell?, h2]
  have c3 : w.cell? ⟨D, 0, none⟩ = some (.map (some M)) := by simp [World.cell?, hD]
  have HM := Lib.hid hm
  clear h1 h2 hD hm
  go_enter Try.func23, Try.ntmps23
  go_wp2_with fail
  go_still_tail 5, (by kernel_rfl)
  change wpList _ _ _ _ _ w.drew
  go_wp2_with (at_delete; refine wpList_del _ rfl _ _ 47 9 rfl 51 Try.underlying47 Try.underlying9 M n f rfl (show HasMap w.drew M n f from HM.out) s rfl ?_; intro w2 hm2 hg2 hs2; have H2 := Lib.hid hm2; have HG := Lib.hid hg2; have HS := Lib.hid hs2; clear hm2 hg2 hs2)
  go_end0
  exact ⟨rfl, H2.out, ⟨HG.out.os, HG.out.tape, HG.out.output, HG.out.size, HG.out.block⟩, HS.out⟩

end Go.Proofs.Ytigbodokmkpohaa
