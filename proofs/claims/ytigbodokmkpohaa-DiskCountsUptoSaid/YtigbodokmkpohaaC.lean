/- An operation is counted, and done, but where it is cut. -/
import Derived.Test.YtigbodokmkpohaaB
namespace Go.Proofs.Ytigbodokmkpohaa
open Go.RowKit

set_option maxHeartbeats 400000 in
theorem done_goes (D : Nat) (x0 x1 x4 : Value) (ops : Nat) (at_ : Int) (g : Nat) (caps : Array Value) (R : World → Prop) (w : World) (hD : w.heap[D]? = some (.cells #[x0, x1, .int .i64 ops, .int .i64 at_, x4] 49 (0, 0)))
    (hops : ops ≤ 1000000) (hat : (ops : Int) ≠ at_)
    (hg : ∀ W, (callFunc g caps).run Try.prog W = .ok (.enter g caps) W)
    (H : ∀ q, Calls Try.prog g caps ((w.setCell ⟨D, 2, none⟩ (.int .i64 (ops + 1))).drewN q) fun e w' => e = .returned (.tuple #[]) ∧ R w') :
    Calls Try.prog 20 #[.pointer (some ⟨D, 0, none⟩), .func (.func g) #[] caps] w fun e w' => e = .returned (.int .i64 0) ∧ R w' := by
  have c2 : w.cell? ⟨D, 2, none⟩ = some (.int .i64 ops) := by simp [World.cell?, hD]
  have c3 : w.cell? ⟨D, 3, none⟩ = some (.int .i64 at_) := by simp [World.cell?, hD]
  have f2 : w.frozen? ⟨D, 2, none⟩ = false := by simp [World.frozen?, hD]
  have ht : ((ops : Int) == at_) = false := by simpa using hat
  have HH := Lib.hid H
  clear hD H hat
  go_enter Try.func20, Try.ntmps20
  go_wp2_with fail
  go_quiet (fail)
  go_wp2_with fail
  refine ((HH.out _).mono ?_); rintro e w' ⟨rfl, hR⟩
  go_wp2_with fail
  go_ret
  exact ⟨rfl, hR⟩

set_option maxHeartbeats 400000 in
theorem done_cuts (D : Nat) (x0 x1 : Value) (ops : Nat) (part : Int) (g : Nat) (caps : Array Value) (R : World → Prop) (w : World) (hD : w.heap[D]? = some (.cells #[x0, x1, .int .i64 ops, .int .i64 ops, .int .i64 part] 49 (0, 0)))
    (hops : ops ≤ 1000000)
    (H : ∀ q, Calls Try.prog 29 #[.pointer (some ⟨D, 0, none⟩), .int .i64 part] ((w.setCell ⟨D, 2, none⟩ (.int .i64 (ops + 1))).drewN q) fun e w' => e = .returned (.tuple #[]) ∧ R w') :
    Calls Try.prog 20 #[.pointer (some ⟨D, 0, none⟩), .func (.func g) #[] caps] w fun e w' => e = .returned (.int .i64 122) ∧ R w' := by
  have c2 : w.cell? ⟨D, 2, none⟩ = some (.int .i64 ops) := by simp [World.cell?, hD]
  have c3 : w.cell? ⟨D, 3, none⟩ = some (.int .i64 ops) := by simp [World.cell?, hD]
  have c4 : w.cell? ⟨D, 4, none⟩ = some (.int .i64 part) := by simp [World.cell?, hD]
  have f2 : w.frozen? ⟨D, 2, none⟩ = false := by simp [World.frozen?, hD]
  have HH := Lib.hid H
  clear hD H
  go_enter Try.func20, Try.ntmps20
  go_wp2_with fail
  go_quiet (fail)
  go_wp2_with (go_at_call 29; refine ((HH.out _).mono ?_); rintro e w' ⟨rfl, hR⟩)
  go_ret
  exact ⟨rfl, hR⟩

end Go.Proofs.Ytigbodokmkpohaa
