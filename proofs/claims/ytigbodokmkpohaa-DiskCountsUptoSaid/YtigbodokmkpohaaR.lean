/- awake, walked. -/
import Derived.Test.YtigbodokmkpohaaQ
namespace Go.Proofs.Ytigbodokmkpohaa
open Go.RowKit

theorem Cutd.keeps {w w' : World} {off : Bool} {ops : Nat} {bytes : List UInt8} (h : Cutd w off ops bytes w') : Keeps (fun _ => False) w w' := by
  obtain ⟨S, f, _, hk, _⟩ := h
  exact hk

theorem str_same (l : List UInt8) : ((ByteArray.mk l.toArray) == (ByteArray.mk l.toArray)) = true := (MapKept.bytes_beq _ _).2 rfl

set_option maxHeartbeats 1600000 in
theorem awake_true (w : World) : Calls Try.prog 5 #[] w fun e w' => e = .returned (.bool true) ∧ Keeps (fun _ => False) w w' := by
  have kc := fun (w : World) (C : Array Value) (n c : Nat) => Lib.run_convert_bytes_const (P := Try.prog) w 22 5 C n c Try.underlying22 Try.underlying5
  go_enter Try.func5, Try.ntmps5
  go_wp2_with fail
  refine (new_is w w.heap.size (Nat.le_refl _)).mono ?_
  rintro e w1 ⟨rfl, hd1, ho1, hk1⟩
  have H1 := Lib.hid hd1; have O1 := Lib.hid ho1; have K1 := Lib.hid hk1
  clear hd1 ho1 hk1
  go_wp2_with fail
  refine (stage_first [120, 121] (2, 3) (by decide) H1.out O1.out K1.out).mono ?_
  rintro e w2 ⟨rfl, h2⟩
  have H2 := Lib.hid h2
  clear h2
  go_wp2_with fail
  refine (stage_sync H2.out (by decide) (by decide)).mono ?_
  rintro e w3 ⟨rfl, h3⟩
  have H3 := Lib.hid h3
  clear h3
  go_wp2_with fail
  refine (stage_append H3.out [122] (1, 2) (by decide) (by decide)).mono ?_
  rintro e w4 ⟨rfl, h4⟩
  have H4 := Lib.hid h4
  clear h4
  go_wp2_with fail
  refine (stage_read H4.out (by decide)).mono ?_
  rintro e w5 ⟨a5, c5, rfl, h5, r5, k5⟩
  have H5 := Lib.hid h5; have R5 := Lib.hid r5
  clear h5 r5 k5
  go_wp2_with fail
  refine (stage_cut H5.out (by decide)).mono ?_
  rintro e w6 ⟨rfl, h6, k6⟩
  have H6 := Lib.hid h6
  have R6 := Lib.hid (k6 _ _ R5.out)
  clear h6 k6
  go_wp2_with fail
  refine (cutd_read_off H6.out sA).mono ?_
  rintro e w7 ⟨rfl, h7, k7⟩
  have H7 := Lib.hid h7
  have R7 := Lib.hid (ownsRow_same R6.out (fun k hk => k7.block k (R6.out.lt k hk).2 id))
  clear h7 k7
  go_wp2_with fail
  refine (cutd_on H7.out w4.heap.size).mono ?_
  rintro e w8 ⟨rfl, h8, k8⟩
  have H8 := Lib.hid h8
  have R8 := Lib.hid (k8 _ _ R7.out)
  clear h8 k8
  go_wp2_with fail
  refine (cutd_read H8.out (by decide)).mono ?_
  rintro e w9 ⟨a9, c9, rfl, h9, r9, k9⟩
  have H9 := Lib.hid h9; have R9 := Lib.hid r9
  have R9' := Lib.hid (ownsRow_same R8.out (fun k hk => k9.block k (R8.out.lt k hk).2 id))
  clear h9 r9 k9
  have s1 : (convert 22 9 (.slice a9 2 c9)).run Try.prog w9 = .ok (.string ⟨#[120, 121]⟩) w9 := run_string_of (P := Try.prog) 22 9 5 Try.underlying22 Try.underlying5 Try.underlying9 _ _ w9 (Bytes.of_own R9.out)
  have s2 : (convert 22 9 (.slice a5 3 c5)).run Try.prog w9 = .ok (.string ⟨#[120, 121, 122]⟩) w9 := run_string_of (P := Try.prog) 22 9 5 Try.underlying22 Try.underlying5 Try.underlying9 _ _ w9 (Bytes.of_own R9'.out)
  go_wp2_with (go_at_call 13; refine (cutd_ops H9.out).mono ?_; rintro e w' ⟨rfl, rfl⟩)
  go_ret
  exact ⟨rfl, H9.out.keeps⟩

end Go.Proofs.Ytigbodokmkpohaa
