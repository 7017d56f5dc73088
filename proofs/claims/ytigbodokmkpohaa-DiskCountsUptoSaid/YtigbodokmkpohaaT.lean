/- DiskFull, walked. -/
import Derived.Test.YtigbodokmkpohaaS
namespace Go.Proofs.Ytigbodokmkpohaa
open Go.RowKit

/-- A row of bytes, whatever they are. -/
def RowAny (w : World) (B : Nat) (v : Value) (n : Nat) : Prop := ∃ zs : List Int, zs.length = n ∧ w.ownsRow B 5 1 v n (zs.map (Value.int .u8))

theorem RowAny.of {w : World} {B : Nat} {v : Value} {l : List UInt8} (h : w.ownsRow B 5 1 v l.length (cellsOf l)) : RowAny w B v l.length :=
  ⟨l.map fun c => (c.toNat : Int), by simp, by rw [← cellsOf_ints]; exact h⟩

theorem abs_any (n : Int) (w : World) (h1 : -9223372036854775808 ≤ n) (h2 : n ≤ 9223372036854775807) :
    Calls Try.prog 9 #[.int .i64 n] w fun e w' => ∃ a : Nat, e = .returned (.int .i64 a) ∧ a ≤ 9223372036854775807 ∧ w = w' := by
  by_cases h : 0 ≤ n
  · refine (abs_nonneg n w h h2).mono ?_
    rintro e w' ⟨rfl, rfl⟩
    exact ⟨n.toNat, by congr 2; omega, by omega, rfl⟩
  · refine (abs_neg n w (by omega) h1).mono ?_
    rintro e w' ⟨rfl, rfl⟩
    exact ⟨(-(n + 1)).toNat, by congr 2; omega, by omega, rfl⟩

/-- One byte of the row is written over. -/
theorem RowAny.step {w : World} {B g n c k : Nat} (h : RowAny w B (.slice (some ⟨g, 0, none⟩) n c) n) (hk : k < n) : ∃ z : Int, w.cell? ⟨g, k, none⟩ = some (.int .u8 z) ∧ w.frozen? ⟨g, k, none⟩ = false ∧
    ∀ y : Int, RowAny (w.setCell ⟨g, k, none⟩ (.int .u8 y)) B (.slice (some ⟨g, 0, none⟩) n c) n := by
  obtain ⟨zs, hz, hown⟩ := h
  have hc := hown.cellAt k (by omega)
  rw [List.getElem?_map, List.getElem?_eq_getElem (by omega)] at hc
  refine ⟨_, hc, hown.frozenAt k, fun y => ⟨zs.set k y, by simpa using hz, ?_⟩⟩
  have := (hown.stored k (.int .u8 y)).1
  rw [List.map_set]
  exact this

theorem RowAny.shape {w : World} {B n c : Nat} {a : Option Addr} (h : RowAny w B (.slice a n c) n) (hn : 0 < n) : ∃ g, a = some ⟨g, 0, none⟩ := by
  obtain ⟨zs, hz, hown⟩ := h
  rcases hown.2 with ⟨h, h0⟩ | ⟨g, cap, cur, h, _⟩
  · omega
  · cases h; exact ⟨g, rfl⟩

set_option maxHeartbeats 1600000 in
set_option maxRecDepth 100000 in
theorem diskFull_walk (which : Int) (hw1 : -9223372036854775808 ≤ which) (hw2 : which ≤ 9223372036854775807) (xb : Value) (l : List UInt8) (w : World) (hx : ∀ w', Keeps (fun _ => False) w w' → Bytes w' xb l) (hl : l.length ≤ 140737488351232) :
    Calls Try.prog 3 #[.int .i64 which, xb] w fun e w' => e = .returned (.bool true) ∧ Keeps (fun _ => False) w w' := by
  obtain ⟨i0, hi, hz0, hz1, hz2⟩ := info_parts Try.info5
  have HX := Lib.hid hx
  clear hx
  go_enter Try.func3, Try.ntmps3
  go_wp2_with (go_at_call 5; refine (awake_true _).mono ?_; rintro e w0 ⟨rfl, hk0⟩; have K0 := Lib.hid hk0; clear hk0)
  refine (new_is w0 w0.heap.size (Nat.le_refl _)).mono ?_
  rintro e w1 ⟨rfl, hd1, ho1, hk1⟩
  have H1 := Lib.hid (full_start hd1 ho1 hk1)
  clear hd1 ho1 hk1
  go_wp2_with fail
  go_loopw [7] (fun i wr => ∃ k : Nat, k ≤ 1000 ∧ i = .int .i64 k ∧ Full w0 k wr) (fun i _ => 1000 - (intOf i).toNat)
  case atStart => exact ⟨0, by omega, rfl, H1.out⟩
  case round =>
    obtain ⟨k, hk, rfl, hfull⟩ := hrel
    have HF := Lib.hid hfull
    clear hfull
    by_cases hlt : k < 1000
    · have hsz := numS_size k (by omega)
      go_wp2_with (first
        | (go_at_call 8; refine (number_any k k _ (Nat.le_refl _) (by omega)).mono ?_; rintro e w' ⟨rfl, rfl⟩)
        | (go_at_call 7; refine (full_step HF.out hlt).mono ?_; rintro e w2 ⟨rfl, hf2⟩; have HF2 := Lib.hid hf2; clear hf2))
      go_roundw
      case rel => exact ⟨k + 1, by omega, by go_num, HF2.out⟩
      case measure => simp [intOf]; omega
    · obtain rfl : k = 1000 := by omega
      go_wp2_with fail
      refine (abs_any which _ hw1 hw2).mono ?_
      rintro e w' ⟨a, rfl, ha, rfl⟩
      obtain ⟨m, hm⟩ : ∃ m, m = a % 1000 := ⟨_, rfl⟩
      have hml : m < 1000 := by omega
      have hmi : (a : Int) % 1000 = (m : Int) := by omega
      clear hm
      have hsz := numS_size m (by omega)
      go_wp2_with fail
      refine (number_any m m _ (Nat.le_refl _) (by omega)).mono ?_
      rintro e w' ⟨rfl, rfl⟩
      clear hmi
      go_wp2_with fail
      refine (full_g HF.out).mono ?_
      rintro e w3 ⟨rfl, h3⟩
      have H3 := Lib.hid h3
      clear h3
      have hx3 : Bytes w3 xb l := HX.out w3 (K0.out.trans H3.out.keeps)
      have HX3 := Lib.hid hx3
      clear hx3
      go_wp2_with (at_builtin; refine wpList_append_bytes_nil _ rfl _ _ 22 rfl w3.heap.size 5 i0 (.int .u8 0) Try.underlying22 hi hz0 hz1 hz2 rfl rfl _ l rfl HX3.out (by omega) (Nat.le_refl _) ?_; intro a' c' w4 hown4 hg4 hloc4; have HO4 := Lib.hid hown4; have HG4 := Lib.hid (Keeps.grown (F := fun _ => False) hg4 (fun k e _ => by cases e)); clear hown4 hg4 hloc4)
      refine (full_put H3.out hml _ l w4 HG4.out (Bytes.of_own HO4.out) (fun k hk => (HO4.out.lt k hk).2) (by omega)).mono ?_
      rintro e w5 ⟨rfl, h5, k5⟩
      have H5 := Lib.hid h5
      have R5 := Lib.hid (RowAny.of (ownsRow_same HO4.out (fun k hk => k5 k (HO4.out.lt k hk).1 (HO4.out.lt k hk).2)))
      have N5 := Lib.hid (fun k (hk : (Value.slice a' l.length c').ownBlock = some k) => HO4.out.lt k hk)
      clear h5 k5
      go_wp2_with fail
      go_loopw [12] (fun i wr => ∃ k : Nat, k ≤ l.length ∧ i = .int .i64 k ∧ RowAny wr w3.heap.size (.slice a' l.length c') l.length ∧ Keeps (fun b => (Value.slice a' l.length c').ownBlock = some b) w5 wr) (fun i _ => l.length - (intOf i).toNat)
      case atStart => exact ⟨0, by omega, rfl, R5.out, Keeps.refl _ _⟩
      case round =>
        obtain ⟨k, hk, rfl, hrow, hkp⟩ := hrel
        by_cases hlt : k < l.length
        · obtain ⟨g, rfl⟩ := hrow.shape (by omega)
          obtain ⟨z, hz, hfz, hst⟩ := hrow.step hlt
          have HST := Lib.hid hst
          have HKP := Lib.hid hkp
          clear hrow hst hkp
          go_wp2_with fail
          go_roundw
          case rel => exact ⟨k + 1, by omega, by go_num, HST.out _, HKP.out.trans (Keeps.setCell _ _ _ (fun _ => rfl))⟩
          case measure => simp [intOf]; omega
        · have HKP := Lib.hid hkp
          clear hrow hkp
          have h5' := H5.out.kept HKP.out (fun b _ hb => N5.out b hb)
          have H5' := Lib.hid h5'
          clear h5'
          go_wp2_with fail
          refine (has_read H5'.out hml (by omega)).mono ?_
          rintro e w6 ⟨a6, c6, rfl, h6, r6, k6⟩
          have H6 := Lib.hid h6
          have R6 := Lib.hid (RowAny.of r6)
          have N6 := Lib.hid (fun k (hk : (Value.slice a6 l.length c6).ownBlock = some k) => (r6.lt k hk).1)
          have s6 : (convert 22 9 (.slice a6 l.length c6)).run Try.prog w6 = .ok (.string ⟨l.toArray⟩) w6 := run_string_of (P := Try.prog) 22 9 5 Try.underlying22 Try.underlying5 Try.underlying9 _ _ w6 (Bytes.of_own r6)
          clear h6 r6 k6
          go_wp2_with fail
          clear s6
          go_loopw [16] (fun i wr => ∃ k : Nat, k ≤ l.length ∧ i = .int .i64 k ∧ (∃ B, RowAny wr B (.slice a6 l.length c6) l.length) ∧ Keeps (fun b => (Value.slice a6 l.length c6).ownBlock = some b) w6 wr) (fun i _ => l.length - (intOf i).toNat)
          case atStart => exact ⟨0, by omega, rfl, ⟨_, R6.out⟩, Keeps.refl _ _⟩
          case round =>
            obtain ⟨k, hk, rfl, ⟨B6, hrow⟩, hkp⟩ := hrel
            by_cases hlt : k < l.length
            · obtain ⟨g, rfl⟩ := hrow.shape (by omega)
              obtain ⟨z, hz, hfz, hst⟩ := hrow.step hlt
              have HST := Lib.hid hst
              have HKP := Lib.hid hkp
              clear hrow hst hkp
              go_wp2_with fail
              go_roundw
              case rel => exact ⟨k + 1, by omega, by go_num, ⟨_, HST.out _⟩, HKP.out.trans (Keeps.setCell _ _ _ (fun _ => rfl))⟩
              case measure => simp [intOf]; omega
            · have HKP := Lib.hid hkp
              clear hrow hkp
              have h6' := H6.out.kept HKP.out (fun b _ hb => N6.out b hb)
              have H6' := Lib.hid h6'
              clear h6'
              go_wp2_with fail
              refine (has_read H6'.out hml (by omega)).mono ?_
              rintro e w7 ⟨a7, c7, rfl, h7, r7, k7⟩
              have H7 := Lib.hid h7
              have R7 := Lib.hid r7
              clear h7 r7 k7
              go_wp2_with fail
              refine (has_remove H7.out hml).mono ?_
              rintro e w8 ⟨rfl, h8, k8⟩
              have H8 := Lib.hid h8
              have K8 := Lib.hid k8
              clear h8 k8
              go_wp2_with fail
              refine (gone_fits H8.out).mono ?_
              rintro e w9 ⟨rfl, h9, k9⟩
              have H9 := Lib.hid h9
              have K9 := Lib.hid k9
              clear h9 k9
              go_wp2_with fail
              refine (gone_full H9.out hml).mono ?_
              rintro e w10 ⟨rfl, k10⟩
              have K10 := Lib.hid k10
              clear k10
              have kw : Keeps (fun _ => False) w w10 := (K0.out.trans H9.out.keeps).trans K10.out
              have sx : (convert 22 9 xb).run Try.prog w10 = .ok (.string ⟨l.toArray⟩) w10 := run_string_of (P := Try.prog) 22 9 5 Try.underlying22 Try.underlying5 Try.underlying9 _ _ w10 (HX.out w10 kw)
              have ry : w10.ownsRow _ 5 1 (.slice a7 l.length c7) l.length (cellsOf l) := ownsRow_same R7.out (fun k hk => by
                obtain ⟨q1, q2⟩ := R7.out.lt k hk
                have q3 := H8.out.keeps.size
                have z8 : k < w8.heap.size := (Array.getElem?_eq_some_iff.1 ((K8.out k q1 q2).trans (ownsRow_cells R7.out hk).choose_spec)).1
                have z9 : k < w9.heap.size := (Array.getElem?_eq_some_iff.1 ((K9.out k q1 z8).trans ((K8.out k q1 q2).trans (ownsRow_cells R7.out hk).choose_spec))).1
                exact (K10.out.block k z9 id).trans ((K9.out k q1 z8).trans (K8.out k q1 q2)))
              have sy : (convert 22 9 (.slice a7 l.length c7)).run Try.prog w10 = .ok (.string ⟨l.toArray⟩) w10 := run_string_of (P := Try.prog) 22 9 5 Try.underlying22 Try.underlying5 Try.underlying9 _ _ w10 (Bytes.of_own ry)
              have KW := Lib.hid kw
              clear kw ry
              go_wp2_with fail
              go_ret
              exact ⟨rfl, KW.out⟩

end Go.Proofs.Ytigbodokmkpohaa
