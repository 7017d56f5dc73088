/- Clone, Read. -/
import Derived.Test.YtigbodokmkpohaaH
import Derived.WalkSpells
namespace Go.Proofs.Ytigbodokmkpohaa
open Go.RowKit

theorem clone_nil (w : World) : Calls Try.prog 22 #[.slice none 0 0] w fun e w' => e = .returned (.slice none 0 0) ∧ w = w' := by
  have h := fun w => Lib.run_eql_slice_nil (P := Try.prog) (w := w) 22 5 none 0 0 0 0 Try.underlying22
  go_enter Try.func22, Try.ntmps22
  go_wp2
  go_ret
  exact ⟨rfl, rfl⟩

set_option maxHeartbeats 400000 in
theorem clone_some (a : Addr) (l : List UInt8) (c : Nat) (w : World) (hx : Bytes w (.slice (some a) l.length c) l) (ha : a.block < w.heap.size) (hl : l.length ≤ 140737488355328) :
    Calls Try.prog 22 #[.slice (some a) l.length c] w fun e w' => ∃ a' c', e = .returned (.slice a' l.length c') ∧ w'.ownsRow w.heap.size 5 1 (.slice a' l.length c') l.length (cellsOf l) ∧ w.grownBy w' none := by
  have h := fun w => Lib.run_eql_slice_nil (P := Try.prog) (w := w) 22 5 (some a) l.length c 0 0 Try.underlying22
  obtain ⟨i0, hi, hz0, hz1, hz2⟩ := info_parts Try.info5
  have hown0 : (w.alloc (.cells #[] 5)).ownsRow w.heap.size 5 1 (.slice (some ⟨w.heap.size, 0, none⟩) 0 0) 0 [] := World.ownsRow_made w #[] 0 (Nat.le_refl _) (by simp) (by simp)
  have hx1 : Bytes (w.alloc (.cells #[] 5)) (.slice (some a) l.length c) l := hx.kept (fun k hk => by cases hk; exact Below.heap_alloc _ _ _ ha)
  have hbs : w.heap.size ≤ (w.alloc (.cells #[] 5)).heap.size := by simp
  have hfin : ∀ w2, (w.alloc (.cells #[] 5)).grownBy w2 (Value.slice (some ⟨w.heap.size, 0, none⟩) 0 0).ownBlock → w.grownBy w2 none := by
    intro w2 hg
    have hs := hg.size
    simp at hs
    exact ⟨hg.os, hg.tape, hg.output, by omega, fun k hk _ => (hg.block k (by simp; omega) (by simp [Value.ownBlock]; omega)).trans (Below.heap_alloc _ _ _ hk)⟩
  have HX := Lib.hid hx1
  have HFIN := Lib.hid hfin
  have HOWN := Lib.hid hown0
  clear hx hx1 hfin hown0
  go_enter Try.func22, Try.ntmps22
  go_wp2_with (at_builtin; refine wpList_append_bytes_zero _ rfl _ _ 22 rfl w.heap.size 5 i0 (.int .u8 0) Try.underlying22 hi hz0 hz1 hz2 rfl _ rfl HOWN.out _ l rfl HX.out hl hbs ?_; intro a' c' w2 hown2 hg2 hloc2; have HG := Lib.hid hg2; have HO := Lib.hid hown2; clear hown2 hg2 hloc2)
  go_ret
  exact ⟨a', c', rfl, HO.out, HFIN.out _ HG.out⟩

end Go.Proofs.Ytigbodokmkpohaa
