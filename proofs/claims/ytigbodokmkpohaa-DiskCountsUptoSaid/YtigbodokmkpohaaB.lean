/- Why a call on the disk is refused. -/
import Derived.Test.YtigbodokmkpohaaA
import Derived.Test.YtigbodokmkpohaaMap
namespace Go.Proofs.Ytigbodokmkpohaa
open Go.RowKit

theorem zero51 (w : World) : (zeroValue 51).run Try.prog w = .ok (.pointer none) w := by kernel_rfl

set_option maxHeartbeats 400000 in
theorem refused_off (D M : Nat) (x2 x3 x4 : Value) (there : Bool) (ns : Value) (w : World) (hD : w.heap[D]? = some (.cells #[.map (some M), .bool true, x2, x3, x4] 49 (0, 0))) :
    Calls Try.prog 19 #[.pointer (some ⟨D, 0, none⟩), .bool there, ns] w fun e w' => e = .returned (.int .i64 122) ∧ w = w' := by
  have c1 : w.cell? ⟨D, 1, none⟩ = some (.bool true) := by simp [World.cell?, hD]
  clear hD
  go_enter Try.func19, Try.ntmps19
  go_wp2
  go_ret
  exact ⟨rfl, rfl⟩

set_option maxHeartbeats 400000 in
theorem refused_new (D M : Nat) (x2 x3 x4 : Value) (b o n c : Nat) (f : Nat → ByteArray) (w : World) (hD : w.heap[D]? = some (.cells #[.map (some M), .bool false, x2, x3, x4] 49 (0, 0)))
    (hn : n ≤ 9) (hs : ∀ i, i < n → Named (f i)) (hc : ∀ i, i < n → w.cell? ⟨b, o + i, none⟩ = some (.string (f i))) :
    Calls Try.prog 19 #[.pointer (some ⟨D, 0, none⟩), .bool false, .slice (some ⟨b, o, none⟩) n c] w fun e w' => e = .returned (.int .i64 0) ∧ ∃ q, w' = w.drewN q := by
  have c1 : w.cell? ⟨D, 1, none⟩ = some (.bool false) := by simp [World.cell?, hD]
  clear hD
  have HS := Lib.hid hs
  have HC := Lib.hid hc
  clear hs hc
  go_enter Try.func19, Try.ntmps19
  go_wp2_with (go_at_call 30; refine (contains_no b o n c f _ hn HS.out HC.out).mono ?_; rintro e w' ⟨rfl, rfl⟩)
  go_quiet (fail)
  go_wp2_with fail
  go_ret
  exact ⟨rfl, _, rfl⟩

/-- A pointer that is not nil, as the test finds it. -/
def OptPtr (p : Option Value) : Prop := ∀ v, p = some v → ∃ a : Addr, v = .pointer (some a)

set_option maxHeartbeats 400000 in
theorem refused_there (D M m : Nat) (x2 x3 x4 : Value) (b o n c : Nat) (f : Nat → ByteArray) (fs : ByteArray → Option Value) (a : Addr) (w : World) (hD : w.heap[D]? = some (.cells #[.map (some M), .bool false, x2, x3, x4] 49 (0, 0)))
    (hn : n ≤ 9) (hn0 : 0 < n) (hs : ∀ i, i < n → Named (f i)) (hc : ∀ i, i < n → w.cell? ⟨b, o + i, none⟩ = some (.string (f i))) (hm : HasMap w M m fs) (hf : fs (f 0) = some (.pointer (some a))) :
    Calls Try.prog 19 #[.pointer (some ⟨D, 0, none⟩), .bool true, .slice (some ⟨b, o, none⟩) n c] w fun e w' => e = .returned (.int .i64 0) ∧ ∃ q, w' = w.drewN q := by
  have c0 : w.cell? ⟨D, 0, none⟩ = some (.map (some M)) := by simp [World.cell?, hD]
  have c1 : w.cell? ⟨D, 1, none⟩ = some (.bool false) := by simp [World.cell?, hD]
  have cn : w.cell? ⟨b, o, none⟩ = some (.string (f 0)) := hc 0 hn0
  have hl : ∀ q, (Instr.lookup 47 (.map (some M)) (.string (f 0)) false).run Try.prog (w.drewN q) = .ok (.pointer (some a)) (w.drewN q) := fun q => by
    have := (HasMap.kept (w' := w.drewN q) hm (by simp)).look (P := Try.prog) (t := 47) (k := 9) (e := 51) rfl rfl (zero51 _) (f 0)
    rw [hf] at this; exact this
  have hi : (0 : Int) < (n : Int) := by omega
  clear hD hm
  have HF := Lib.hid hf
  have HS := Lib.hid hs
  have HC := Lib.hid hc
  clear hs hc hf
  go_enter Try.func19, Try.ntmps19
  go_wp2_with (go_at_call 30; refine (contains_no b o n c f _ hn HS.out HC.out).mono ?_; rintro e w' ⟨rfl, rfl⟩)
  go_quiet (fail)
  go_wp2_with fail
  go_ret
  exact ⟨rfl, _, rfl⟩

set_option maxHeartbeats 400000 in
theorem refused_none (D M m : Nat) (x2 x3 x4 : Value) (b o n c : Nat) (f : Nat → ByteArray) (fs : ByteArray → Option Value) (w : World) (hD : w.heap[D]? = some (.cells #[.map (some M), .bool false, x2, x3, x4] 49 (0, 0)))
    (hn : n ≤ 9) (hn0 : 0 < n) (hs : ∀ i, i < n → Named (f i)) (hc : ∀ i, i < n → w.cell? ⟨b, o + i, none⟩ = some (.string (f i))) (hm : HasMap w M m fs) (hf : fs (f 0) = none) :
    Calls Try.prog 19 #[.pointer (some ⟨D, 0, none⟩), .bool true, .slice (some ⟨b, o, none⟩) n c] w fun e w' => e = .returned (.int .i64 120) ∧ ∃ q, w' = w.drewN q := by
  have c0 : w.cell? ⟨D, 0, none⟩ = some (.map (some M)) := by simp [World.cell?, hD]
  have c1 : w.cell? ⟨D, 1, none⟩ = some (.bool false) := by simp [World.cell?, hD]
  have cn : w.cell? ⟨b, o, none⟩ = some (.string (f 0)) := hc 0 hn0
  have hl : ∀ q, (Instr.lookup 47 (.map (some M)) (.string (f 0)) false).run Try.prog (w.drewN q) = .ok (.pointer none) (w.drewN q) := fun q => by
    have := (HasMap.kept (w' := w.drewN q) hm (by simp)).look (P := Try.prog) (t := 47) (k := 9) (e := 51) rfl rfl (zero51 _) (f 0)
    rw [hf] at this; exact this
  have hi : (0 : Int) < (n : Int) := by omega
  clear hD hm
  have HF := Lib.hid hf
  have HS := Lib.hid hs
  have HC := Lib.hid hc
  clear hs hc hf
  go_enter Try.func19, Try.ntmps19
  go_wp2_with (go_at_call 30; refine (contains_no b o n c f _ hn HS.out HC.out).mono ?_; rintro e w' ⟨rfl, rfl⟩)
  go_quiet (fail)
  go_wp2_with fail
  go_ret
  exact ⟨rfl, _, rfl⟩

end Go.Proofs.Ytigbodokmkpohaa
