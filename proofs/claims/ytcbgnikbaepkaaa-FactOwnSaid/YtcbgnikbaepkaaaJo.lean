/- Two rows together. -/
import Derived.Test.YtcbgnikbaepkaaaPf
import Derived.Test.YtcbgnikbaepkaaaPc
namespace Go.Proofs.Ytcbgnikbaepkaaa
open Go.Shelf Go.RowKit Go.Lib Go.Sort Go.Proofs

def zMany : Value := .agg #[.int .i64 0, .slice none 0 0, .slice none 0 0, .int .u64 0]

theorem run_grow_nil (w : World) (ty : TypeId) (n : Nat) (h0 : 0 < n) (h48 : n * 64 ≤ 281474976710656) :
    (Builtin.append_ #[36, 3] ty #[.slice none 0 0, .int .i64 (n : Int)]).run Try.prog w =
      .ok (.slice (some ⟨w.heap.size, 0, none⟩) n (grownCap w n 0 40)) (w.drew.alloc (.cells (Builtin.zeroCells zMany.cells n ++ Builtin.zeroCells zMany.cells (grownCap w n 0 40 - n)) 40)) := by
  obtain ⟨i0, hi, hz0, hz1, hz2⟩ := info_parts Try.info40
  have hn : n ≠ 0 := by omega
  have hn2 : ¬ ((n : Int) < 0) := by omega
  have w1 : IntKind.i64.wrap (n : Int) = (n : Int) := by rw [IntKind.wrap_i64]; omega
  have h63' : ¬ (9223372036854775807 < (n : Int)) := by omega
  have h48a : ¬ (281474976710656 < (n : Int) * (i0.bytes : Int)) := by rw [hz2]; omega
  have h48' : ¬ (281474976710656 < Builtin.nextslicecap n 0 * i0.bytes) := by rw [nextslicecap_zero h0, hz2]; omega
  have hns : ¬ (n * i0.size = 0) := by rw [hz1]; omega
  simp [Builtin.append_, run_underlying Try.underlying36, run_underlying Try.underlying3, asInt, asIntOf, sizeOf, typeInfo, zeroValue, hi, hz0, hn, hn2, w1, h63', h48a, h48', hns, Question.forced, run_firstCells_none, newRow, grownCap, zMany]

theorem grown_nil (w : World) (base n : Nat) (hbase : base ≤ w.heap.size) (hn : n * 64 ≤ 281474976710656) :
    OwnRows (w.drew.alloc (.cells (Builtin.zeroCells zMany.cells n ++ Builtin.zeroCells zMany.cells (grownCap w n 0 40 - n)) 40)) base (.slice (some ⟨w.heap.size, 0, none⟩) 0 (grownCap w n 0 40)) [] := by
  have hge := grownCap_ge w n 0 40
  refine ⟨rfl, .inr ⟨w.heap.size, grownCap w n 0 40, _, rfl, hbase, heap_alloc_new w.drew _, Nat.zero_le _, grownCap_le_maxLen w n 0 40 (by unfold maxLen; omega), ?_, rfl⟩⟩
  rw [Array.size_append, size_zeroCells, size_zeroCells, show zMany.cells.size = 4 from rfl]
  omega

/-- The world behind. -/
def growW (w : World) (n : Nat) : World := w.drew.alloc (.cells (Builtin.zeroCells zMany.cells n ++ Builtin.zeroCells zMany.cells (grownCap w n 0 40 - n)) 40)

theorem wpList_grow_nil {ops : Array Oper} {rest : List Oper} {o : Oper} {a : Act} {Q : Exit → Act → World → Prop} (hgd : o.guard = none) (s x : Operand)
    (ho : o.op = Op.call { callee := Callee.builtin Builtin.append, args := #[s, x], argTypes := #[36, 3] }) (w : World) (n : Nat) (hs : a.eval s = .slice none 0 0) (hx : a.eval x = .int .i64 (n : Int)) (h0 : 0 < n) (h48 : n * 64 ≤ 281474976710656)
    (h : ∀ c w', n ≤ c → c = grownCap w n 0 40 → w' = growW w n → wpList Try.prog ops Q rest (a.put o.dst (.slice (some ⟨w.heap.size, 0, none⟩) n c)) w') : wpList Try.prog ops Q (o :: rest) a w := by
  refine wpList_plain hgd fun K hK => ?_
  have hrun := run_grow_nil w o.type n h0 h48
  unfold Oper.wp
  simp [execOp, ho, resolve, invoke, builtin, hs, hx, hrun, Result.andThen]
  exact hK _ _ (h _ _ (grownCap_ge w n 0 40) rfl rfl)

set_option maxHeartbeats 800000 in
theorem grow_is (n : Nat) (w : World) (hn : n < 2199023255552) : Calls Try.prog 50 #[.slice none 0 0, .int .i64 n] w fun e w' => ∃ a c, e = .returned (.slice a 0 c) ∧ OwnRows w' w.heap.size (.slice a 0 c) [] ∧ Kept w w' := by
  by_cases h0 : n = 0
  · subst h0
    go_enter Try.func50, Try.ntmps50
    go_wp2_with fail
    go_ret
    exact ⟨none, 0, rfl, OwnRows.nil _ _, Kept.refl _⟩
  · have hp : (0 : Int) < (n : Int) := by omega
    have hnn : ¬ (n : Int) < 0 := by omega
    have HOWN := Lib.hid (show OwnRows (growW w n) w.heap.size (.slice (some ⟨w.heap.size, 0, none⟩) 0 (grownCap w n 0 40)) [] from grown_nil w w.heap.size n (Nat.le_refl _) (by omega))
    have HK := Lib.hid (show Kept w (growW w n) from ((Grows.drew w).trans (Grows.alloc _ _)).kept)
    have h00 : 0 < n := by omega
    have h48 : n * 64 ≤ 281474976710656 := by omega
    go_enter Try.func50, Try.ntmps50
    go_wp2_with (at_builtin; refine wpList_grow_nil rfl _ _ rfl w n rfl rfl h00 h48 ?_; intro c w' hnc hc hw'; have HC := Lib.hid hc; have HW := Lib.hid hw'; clear hc hw')
    go_ret
    exact ⟨_, c, rfl, by rw [HW.out, HC.out]; exact HOWN.out, by rw [HW.out]; exact HK.out⟩

end Go.Proofs.Ytcbgnikbaepkaaa
