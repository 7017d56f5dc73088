/- A block turns, the others stay; no rows: nothing to sort; rows of which some are struck. -/
import Derived.Test.YtcbgnikbaepkaaaS
import Derived.Laws.IdiomCopy
import Derived.Shelf.SlSortFuncK.RowK2
namespace Go.Proofs.Ytcbgnikbaepkaaa
open Go.Shelf Go.RowKit Go.Lib Go.Sort Go.Proofs

/-- Block g turns, new blocks come: nothing else. -/
structure Moved (g : Nat) (w w' : World) : Prop where
  os : w'.os = w.os
  tape : w'.tape = w.tape
  output : w'.output = w.output
  size : w.heap.size ≤ w'.heap.size
  block : ∀ k, k < w.heap.size → k ≠ g → w'.heap[k]? = w.heap[k]?

theorem Kept.moved {w w' : World} (h : Kept w w') (g : Nat) : Moved g w w' := ⟨h.os, h.tape, h.output, h.size, fun k hk _ => h.block k hk⟩
theorem Moved.refl (g : Nat) (w : World) : Moved g w w := (Kept.refl w).moved g
theorem Moved.trans {g : Nat} {a b c : World} (h : Moved g a b) (k : Moved g b c) : Moved g a c :=
  ⟨k.os.trans h.os, k.tape.trans h.tape, k.output.trans h.output, Nat.le_trans h.size k.size, fun i hi hn => (k.block i (Nat.lt_of_lt_of_le hi h.size) hn).trans (h.block i hi hn)⟩
theorem Moved.kept {g : Nat} {a b c : World} (h : Kept a b) (k : Moved g b c) (hg : a.heap.size ≤ g) : Kept a c :=
  ⟨k.os.trans h.os, k.tape.trans h.tape, k.output.trans h.output, Nat.le_trans h.size k.size, fun i hi => (k.block i (Nat.lt_of_lt_of_le hi h.size) (by omega)).trans (h.block i hi)⟩
theorem Cells.moved {g : Nat} {w w' : World} {v : Value} {xs : List Value} (h : Cells w v xs) (hm : Moved g w w') (hg : v.ownBlock ≠ some g) : Cells w' v xs := by
  rcases h with h | ⟨a, c, rfl, h⟩
  · exact .inl h
  · refine .inr ⟨a, c, rfl, fun j u hu => ?_⟩
    have hc := h j u hu
    rw [← hc]
    have e : (a.add j).block = a.block := by unfold Addr.add; split <;> rfl
    exact World.cell?_of_block (hm.block _ (World.block_lt_of_cell? w _ hc) (by rw [e]; intro e2; exact hg (by rw [← e2]; rfl)))
theorem FaAt.moved {g : Nat} {w w' : World} {d m : Value} {f : Fa} (h : FaAt w d m f) (hm : Moved g w w') (h1 : d.ownBlock ≠ some g) (h2 : m.ownBlock ≠ some g) : FaAt w' d m f := ⟨h.dims.moved hm h1, h.meas.moved hm h2, h.dl, h.ml⟩
theorem moved_setCell (g i : Nat) (w : World) (v : Value) : Moved g w (w.setCell ⟨g, i, none⟩ v) :=
  ⟨rfl, rfl, rfl, by simp [World.setCell], fun k _ hk => Below.heap_setCell _ _ _ _ hk⟩
theorem moved_set4 (g i : Nat) (w : World) (a b c d : Value) : Moved g w ((((w.setCell ⟨g, i, none⟩ a).setCell ⟨g, i + 1, none⟩ b).setCell ⟨g, i + 2, none⟩ c).setCell ⟨g, i + 3, none⟩ d) :=
  (((moved_setCell g i w a).trans (moved_setCell g (i + 1) _ b)).trans (moved_setCell g (i + 2) _ c)).trans (moved_setCell g (i + 3) _ d)
theorem moved_setCells (g : Nat) (vs : List Value) : ∀ (o : Nat) (w : World), Moved g w (w.setCells g o vs) := by
  induction vs with
  | nil => intro o w; exact Moved.refl _ _
  | cons v vs ih => intro o w; exact (moved_setCell g o w v).trans (ih (o + 1) _)

theorem ins_empty (a : Option Addr) (c : Nat) (w : World) : Calls Try.prog 57 #[.slice a 0 c, .int .i64 0, .int .i64 0, .func (.func 46) #[] #[]] w fun e w' => e = .returned (.tuple #[]) ∧ w' = w := by
  go_enter Try.func57, Try.ntmps57
  go_wp2_with fail
  refine wp_loop_rounds 1 ?_
  rw [rounds_succ]
  go_wp2_with fail
  go_end0
  exact ⟨rfl, rfl⟩

theorem stable_empty (a : Option Addr) (c : Nat) (w : World) : Calls Try.prog 52 #[.slice a 0 c, .int .i64 0, .func (.func 46) #[] #[]] w fun e w' => e = .returned (.tuple #[]) ∧ w' = w := by
  go_enter Try.func52, Try.ntmps52
  go_wp2_with fail
  refine wp_loop_rounds 1 ?_
  rw [rounds_succ]
  go_wp2_with (go_at_call 57; refine (ins_empty _ _ _).mono ?_; rintro e w1 ⟨rfl, rfl⟩)
  refine wp_loop_rounds 1 ?_
  rw [rounds_succ]
  go_wp2_with fail
  go_end0
  exact ⟨rfl, rfl⟩

theorem sort_empty (a : Option Addr) (c : Nat) (w : World) : Calls Try.prog 45 #[.slice a 0 c, .func (.func 46) #[] #[]] w fun e w' => e = .returned (.tuple #[]) ∧ w' = w := by
  go_enter Try.func45, Try.ntmps45
  go_wp2_with (go_at_call 52; refine (stable_empty _ _ _).mono ?_; rintro e w1 ⟨rfl, rfl⟩)
  go_end0
  exact ⟨rfl, rfl⟩

end Go.Proofs.Ytcbgnikbaepkaaa
