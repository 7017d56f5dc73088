/- A fact in new memory. -/
import Derived.Test.YtcbgnikbaepkaaaJ
import Derived.WalkSpells
import Derived.Deep.RegionHeld3
namespace Go.Proofs.Ytcbgnikbaepkaaa
open Go.RowKit

theorem Try.info9 : (Try.prog.info? 9).map (fun i => (i.zero, i.size, i.bytes)) = some (some (.string ByteArray.empty), 1, 16) := by kernel_rfl
theorem Try.info2 : (Try.prog.info? 2).map (fun i => (i.zero, i.size, i.bytes)) = some (some (.int .i64 0), 1, 8) := by kernel_rfl

theorem kept_grownBy {w U w2 : World} {r : Option Nat} (h : Kept w U) (hg : U.grownBy w2 r) (hr : ∀ k, r = some k → w.heap.size ≤ k) : Kept w w2 :=
  ⟨hg.os.trans h.os, hg.tape.trans h.tape, hg.output.trans h.output, Nat.le_trans h.size hg.size, fun k hk => (hg.block k (Nat.lt_of_lt_of_le hk h.size) (fun e => by have := hr k e.symm; omega)).trans (h.block k hk)⟩

theorem WRow.toCells {w : World} {base e : Nat} {v : Value} {xs : List Value} (h : WRow w base e v xs) : Cells w v xs := by
  rcases h with h | ⟨g, cap, cur, rfl, h1, h2, h3, h4, h5, h6⟩
  · exact .inl h
  · refine .inr ⟨⟨g, 0, none⟩, cap, rfl, fun j u hu => ?_⟩
    have hw : WRow w base e (.slice (some ⟨g, 0, none⟩) xs.length cap) xs := .inr ⟨g, cap, cur, rfl, h1, h2, h3, h4, h5, h6⟩
    have hj := (List.getElem?_eq_some_iff.1 hu)
    have e1 : (⟨g, 0, none⟩ : Addr).add j = ⟨g, j, none⟩ := by unfold Addr.add; split <;> simp_all
    rw [e1, (hw.cellAt hj.1).1, hj.2]

/-- v's block may be written. -/
def SoftV (w : World) (v : Value) : Prop := ∀ k, v.ownBlock = some k → ∃ cur e, w.heap[k]? = some (.cells cur e (0, 0))

theorem SoftV.same {w w' : World} {v : Value} (h : SoftV w v) (hb : ∀ k, v.ownBlock = some k → w'.heap[k]? = w.heap[k]?) : SoftV w' v := fun k hk => by
  obtain ⟨cur, e, hc⟩ := h k hk
  exact ⟨cur, e, (hb k hk).trans hc⟩
theorem SoftV.kept {w w' : World} {v : Value} (h : SoftV w v) (hk : Kept w w') : SoftV w' v := fun k hv => by
  obtain ⟨cur, e, hc⟩ := h k hv
  exact ⟨cur, e, (hk.block _ (Array.getElem?_eq_some_iff.1 hc).1).trans hc⟩
theorem WRow.soft {w : World} {base e : Nat} {v : Value} {xs : List Value} (h : WRow w base e v xs) : SoftV w v := fun k hk => by
  obtain ⟨_, _, cur, hc⟩ := h.lt hk
  exact ⟨cur, e, hc⟩

set_option maxHeartbeats 800000 in
theorem cloneS_is (v : Value) (l : List ByteArray) (w : World) (h : Cells w v (l.map Value.string)) (hl : l.length ≤ 8796093022208) :
    Calls Try.prog 53 #[v] w fun e w' => ∃ a' c', e = .returned (.slice a' l.length c') ∧ (Cells w' (.slice a' l.length c') (l.map Value.string) ∧ (∀ k, (Value.slice a' l.length c').ownBlock = some k → w.heap.size ≤ k) ∧ SoftV w' (.slice a' l.length c')) ∧ Kept w w' := by
  rcases h with ⟨rfl, hn⟩ | ⟨a, c, rfl, hc⟩
  · have hl0 : l = [] := by simpa using hn
    subst hl0
    have h := fun w => Lib.run_eql_slice_nil (P := Try.prog) (w := w) 24 9 none 0 0 0 0 Try.underlying24
    go_enter Try.func53, Try.ntmps53
    go_wp2_with fail
    go_ret
    exact ⟨none, 0, rfl, ⟨.inl ⟨rfl, rfl⟩, (fun k e => by cases e), (fun k e => by cases e)⟩, Kept.refl _⟩
  · have h := fun w => Lib.run_eql_slice_nil (P := Try.prog) (w := w) 24 9 (some a) (l.map Value.string).length c 0 0 Try.underlying24
    simp only [List.length_map] at h ⊢
    obtain ⟨i0, hi, hz0, hz1, hz2⟩ := info_parts Try.info9
    have hK : Kept w (w.alloc (.cells #[] 9)) := (Grows.alloc _ _).kept
    have hx : Cells (w.alloc (.cells #[] 9)) (.slice (some a) l.length c) (l.map Value.string) := Cells.kept (.inr ⟨a, c, by simp, hc⟩) hK
    have hrow : WRow (w.alloc (.cells #[] 9)) w.heap.size 9 (.slice (some ⟨w.heap.size, 0, none⟩) 0 0) [] := .inr ⟨w.heap.size, 0, #[], by simp, Nat.le_refl _, (MapKept.heap_alloc _ _).1, by simp, by simp, by decide, rfl⟩
    have hone : ∀ u ∈ l.map Value.string, u.oneCell' = true := fun u hu => by obtain ⟨_, _, rfl⟩ := List.mem_map.1 hu; rfl
    have HK := Lib.hid hK
    have HX := Lib.hid hx
    have HR := Lib.hid hrow
    have HO := Lib.hid hone
    clear hK hx hrow hone hc
    go_enter Try.func53, Try.ntmps53
    go_wp2_with (at_builtin; refine wpList_append_w _ rfl _ _ 24 rfl w.heap.size 9 i0 (.string ByteArray.empty) 16 Try.underlying24 hi hz0 hz1 hz2 rfl _ [] rfl HR.out _ (l.map Value.string) rfl HX.out HO.out (by simp; omega) (by simp; omega) (by simp) l.length (by simp) ?_; intro a' c' w2 hr hg hl2; have R2 := Lib.hid hr.toCells; have B2 := Lib.hid (fun k e => (hr.lt (k := k) e).1); have T2 := Lib.hid hr.soft; have G2 := Lib.hid (kept_grownBy HK.out hg (fun k e => by cases e; exact Nat.le_refl _)); clear hr hg hl2)
    go_ret
    exact ⟨a', c', rfl, ⟨by have := R2.out; simpa using this, B2.out, T2.out⟩, G2.out⟩

set_option maxHeartbeats 800000 in
theorem cloneI_is (v : Value) (l : List Int) (w : World) (h : Cells w v (l.map (Value.int .i64))) (hl : l.length ≤ 17592186044416) :
    Calls Try.prog 54 #[v] w fun e w' => ∃ a' c', e = .returned (.slice a' l.length c') ∧ (Cells w' (.slice a' l.length c') (l.map (Value.int .i64)) ∧ (∀ k, (Value.slice a' l.length c').ownBlock = some k → w.heap.size ≤ k) ∧ SoftV w' (.slice a' l.length c')) ∧ Kept w w' := by
  rcases h with ⟨rfl, hn⟩ | ⟨a, c, rfl, hc⟩
  · have hl0 : l = [] := by simpa using hn
    subst hl0
    have h := fun w => Lib.run_eql_slice_nil (P := Try.prog) (w := w) 25 2 none 0 0 0 0 Try.underlying25
    go_enter Try.func54, Try.ntmps54
    go_wp2_with fail
    go_ret
    exact ⟨none, 0, rfl, ⟨.inl ⟨rfl, rfl⟩, (fun k e => by cases e), (fun k e => by cases e)⟩, Kept.refl _⟩
  · have h := fun w => Lib.run_eql_slice_nil (P := Try.prog) (w := w) 25 2 (some a) (l.map (Value.int .i64)).length c 0 0 Try.underlying25
    simp only [List.length_map] at h ⊢
    obtain ⟨i0, hi, hz0, hz1, hz2⟩ := info_parts Try.info2
    have hK : Kept w (w.alloc (.cells #[] 2)) := (Grows.alloc _ _).kept
    have hx : Cells (w.alloc (.cells #[] 2)) (.slice (some a) l.length c) (l.map (Value.int .i64)) := Cells.kept (.inr ⟨a, c, by simp, hc⟩) hK
    have hrow : WRow (w.alloc (.cells #[] 2)) w.heap.size 2 (.slice (some ⟨w.heap.size, 0, none⟩) 0 0) [] := .inr ⟨w.heap.size, 0, #[], by simp, Nat.le_refl _, (MapKept.heap_alloc _ _).1, by simp, by simp, by decide, rfl⟩
    have hone : ∀ u ∈ l.map (Value.int .i64), u.oneCell' = true := fun u hu => by obtain ⟨_, _, rfl⟩ := List.mem_map.1 hu; rfl
    have HK := Lib.hid hK
    have HX := Lib.hid hx
    have HR := Lib.hid hrow
    have HO := Lib.hid hone
    clear hK hx hrow hone hc
    go_enter Try.func54, Try.ntmps54
    go_wp2_with (at_builtin; refine wpList_append_w _ rfl _ _ 25 rfl w.heap.size 2 i0 (.int .i64 0) 8 Try.underlying25 hi hz0 hz1 hz2 rfl _ [] rfl HR.out _ (l.map (Value.int .i64)) rfl HX.out HO.out (by simp; omega) (by simp; omega) (by simp) l.length (by simp) ?_; intro a' c' w2 hr hg hl2; have R2 := Lib.hid hr.toCells; have B2 := Lib.hid (fun k e => (hr.lt (k := k) e).1); have T2 := Lib.hid hr.soft; have G2 := Lib.hid (kept_grownBy HK.out hg (fun k e => by cases e; exact Nat.le_refl _)); clear hr hg hl2)
    go_ret
    exact ⟨a', c', rfl, ⟨by have := R2.out; simpa using this, B2.out, T2.out⟩, G2.out⟩

/-- A fact in new memory. -/
def OwnIs (f : Fa) (w : World) (e : Ending) (w' : World) : Prop := ∃ a1 c1 a2 c2, e = .returned (faV f.time (.slice a1 f.dims.length c1) (.slice a2 f.meas.length c2)) ∧ FaAt w' (.slice a1 f.dims.length c1) (.slice a2 f.meas.length c2) f ∧ Kept w w' ∧ (∀ k, (Value.slice a1 f.dims.length c1).ownBlock = some k → w.heap.size ≤ k) ∧ (∀ k, (Value.slice a2 f.meas.length c2).ownBlock = some k → w.heap.size ≤ k) ∧ SoftV w' (.slice a1 f.dims.length c1) ∧ SoftV w' (.slice a2 f.meas.length c2)

theorem Cells.same {w w' : World} {v : Value} {xs : List Value} (h : Cells w v xs) (hb : ∀ k, v.ownBlock = some k → w'.heap[k]? = w.heap[k]?) : Cells w' v xs := by
  rcases h with h | ⟨a, c, rfl, h⟩
  · exact .inl h
  · refine .inr ⟨a, c, rfl, fun j u hu => ?_⟩
    rw [← h j u hu]
    have e : (a.add j).block = a.block := by unfold Addr.add; split <;> rfl
    exact World.cell?_of_block (by rw [e]; exact hb a.block rfl)

theorem kept_of {w U V : World} {B : Nat} (h : Kept w U) (hB : w.heap.size ≤ B) (hk : V.os = U.os ∧ V.tape = U.tape ∧ V.output = U.output ∧ U.heap.size ≤ V.heap.size ∧ ∀ k, k ≠ B → V.heap[k]? = U.heap[k]?) : Kept w V :=
  ⟨hk.1.trans h.os, hk.2.1.trans h.tape, hk.2.2.1.trans h.output, Nat.le_trans h.size hk.2.2.2.1, fun k hkk => (hk.2.2.2.2 k (by omega)).trans (h.block k hkk)⟩

theorem cell_set3 {w : World} {B : Nat} {a b c v : Value} {A : Addr} (hA : A.block ≠ B) (h : w.cell? A = some v) : (((w.setCell ⟨B, 0, none⟩ a).setCell ⟨B, 1, none⟩ b).setCell ⟨B, 2, none⟩ c).cell? A = some v := by
  rw [← h]
  exact World.cell?_of_block (by rw [Below.heap_setCell _ _ _ _ hA, Below.heap_setCell _ _ _ _ hA, Below.heap_setCell _ _ _ _ hA])

set_option maxHeartbeats 3200000 in
set_option maxRecDepth 100000 in
theorem own_is (f : Fa) (d m : Value) (w : World) (hf : FaAt w d m f) :
    Calls Try.prog 47 #[faV f.time d m] w (OwnIs f w) := by
  unfold faV
  have hd := hf.dl
  have hm := hf.ml
  obtain ⟨W, hW⟩ : ∃ W, W = (w.alloc (.cells #[.int .i64 f.time, d, m] 27)).alloc (.cells #[.int .i64 0, .slice none 0 0, .slice none 0 0] 27) := ⟨_, rfl⟩
  have hG : Grows w W := by rw [hW]; exact (Grows.alloc _ _).trans (Grows.alloc _ _)
  have hs : (w.alloc (.cells #[.int .i64 f.time, d, m] 27)).heap.size = w.heap.size + 1 := by simp
  have a0 : (w.alloc (.cells #[.int .i64 f.time, d, m] 27)).heap[w.heap.size]? = some (.cells #[.int .i64 f.time, d, m] 27 (0, 0)) := (MapKept.heap_alloc _ _).1
  have b0 : W.heap[w.heap.size]? = some (.cells #[.int .i64 f.time, d, m] 27 (0, 0)) := by rw [hW, Below.heap_alloc _ _ _ (by simp)]; exact a0
  have b1 : W.heap[w.heap.size + 1]? = some (.cells #[.int .i64 0, .slice none 0 0, .slice none 0 0] 27 (0, 0)) := by rw [hW, ← hs]; exact (MapKept.heap_alloc _ _).1
  have x0 : W.cell? ⟨w.heap.size, 0, none⟩ = some (.int .i64 f.time) := by simp only [World.cell?, b0]; rfl
  have x1 : W.cell? ⟨w.heap.size, 1, none⟩ = some d := by simp only [World.cell?, b0]; rfl
  have x2 : W.cell? ⟨w.heap.size, 2, none⟩ = some m := by simp only [World.cell?, b0]; rfl
  have HF := Lib.hid hf
  have HG := Lib.hid hG
  have HW := Lib.hid hW
  have HB := Lib.hid b1
  clear hf hG hW hs a0 b0 b1
  go_enter Try.func47, Try.ntmps47
  go_wp2_with fail
  rw [← HW.out]
  go_region_held3 (fun w' => w'.cell? ⟨w.heap.size, 0, none⟩ = some (.int .i64 f.time) ∧ w'.cell? ⟨w.heap.size, 1, none⟩ = some d ∧ w'.cell? ⟨w.heap.size, 2, none⟩ = some m) (first | exact ⟨x0, x1, x2⟩ | exact ⟨K1.out.cell x0, K1.out.cell x1, K1.out.cell x2⟩ | exact ⟨K2.out.cell (K1.out.cell x0), K2.out.cell (K1.out.cell x1), K2.out.cell (K1.out.cell x2)⟩ | exact ⟨cell_set3 (Nat.ne_of_lt (Nat.lt_succ_self _)) (K2.out.cell (K1.out.cell x0)), cell_set3 (Nat.ne_of_lt (Nat.lt_succ_self _)) (K2.out.cell (K1.out.cell x1)), cell_set3 (Nat.ne_of_lt (Nat.lt_succ_self _)) (K2.out.cell (K1.out.cell x2))⟩)
    (first | (go_at_call 53; refine (cloneS_is d f.dims _ (HF.out.dims.grows (HG.out.trans (Grows.drew W))) hd).mono ?_; rintro e w1 ⟨a1, c1, rfl, hc1, hk1⟩; have K1 := Lib.hid hk1; have C1 := Lib.hid hc1; clear hc1 hk1) | (go_at_call 54; refine (cloneI_is m f.meas _ ((HF.out.meas.grows (HG.out.trans (Grows.drew W))).kept K1.out) hm).mono ?_; rintro e w2 ⟨a2, c2, rfl, hc2, hk2⟩; have K2 := Lib.hid hk2; have C2 := Lib.hid hc2; have hbk := (hk2.block _ (Nat.lt_of_lt_of_le (Array.getElem?_eq_some_iff.1 HB.out).1 K1.out.size)).trans ((K1.out.block _ (Array.getElem?_eq_some_iff.1 HB.out).1).trans HB.out); have s0 : w2.cell? ⟨w.heap.size + 1, 0, none⟩ = some (.int .i64 0) := (by simp only [World.cell?, hbk]; rfl); have s1 : w2.cell? ⟨w.heap.size + 1, 1, none⟩ = some (.slice none 0 0) := (by simp only [World.cell?, hbk]; rfl); have s2 : w2.cell? ⟨w.heap.size + 1, 2, none⟩ = some (.slice none 0 0) := (by simp only [World.cell?, hbk]; rfl); have z0 : w2.frozen? ⟨w.heap.size + 1, 0, none⟩ = false := (by simp [World.frozen?, hbk]); have z1 : w2.frozen? ⟨w.heap.size + 1, 1, none⟩ = false := (by simp [World.frozen?, hbk]); have z2 : w2.frozen? ⟨w.heap.size + 1, 2, none⟩ = false := (by simp [World.frozen?, hbk]); have HBK := Lib.hid hbk; clear hc2 hk2 hbk))
  obtain ⟨W3, hW3⟩ : ∃ W3, W3 = ((w2.setCell ⟨w.heap.size + 1, 0, none⟩ (.int .i64 f.time)).setCell ⟨w.heap.size + 1, 1, none⟩ (.slice a1 f.dims.length c1)).setCell ⟨w.heap.size + 1, 2, none⟩ (.slice a2 f.meas.length c2) := ⟨_, rfl⟩
  have h3 : W3.heap[w.heap.size + 1]? = some (.cells #[.int .i64 f.time, .slice a1 f.dims.length c1, .slice a2 f.meas.length c2] 27 (0, 0)) := by
    rw [hW3, heap_setCell_at (heap_setCell_at (heap_setCell_at HBK.out _) _)]; simp
  have k3 : Kept w W3 := by
    refine kept_of (((HG.out.trans (Grows.drew W)).kept.trans K1.out).trans K2.out) (B := w.heap.size + 1) (by omega) ⟨by rw [hW3]; rfl, by rw [hW3]; rfl, by rw [hW3]; rfl, by rw [hW3]; simp [World.setCell], fun k hk => ?_⟩
    rw [hW3, Below.heap_setCell _ _ _ _ hk, Below.heap_setCell _ _ _ _ hk, Below.heap_setCell _ _ _ _ hk]
  rw [← hW3]
  have r0 : W3.cell? ⟨w.heap.size + 1, 0, none⟩ = some (.int .i64 f.time) := by simp only [World.cell?, h3]; rfl
  have r1 : W3.cell? ⟨w.heap.size + 1, 1, none⟩ = some (.slice a1 f.dims.length c1) := by simp only [World.cell?, h3]; rfl
  have r2 : W3.cell? ⟨w.heap.size + 1, 2, none⟩ = some (.slice a2 f.meas.length c2) := by simp only [World.cell?, h3]; rfl
  have f3 : FaAt W3 (.slice a1 f.dims.length c1) (.slice a2 f.meas.length c2) f := by
    have hB := (Array.getElem?_eq_some_iff.1 HB.out).1
    have s1 := K1.out.size
    have e1 : W.drew.heap.size = W.heap.size := rfl
    have o3 : ∀ k, k ≠ w.heap.size + 1 → W3.heap[k]? = w2.heap[k]? := fun k hk => by rw [hW3, Below.heap_setCell _ _ _ _ hk, Below.heap_setCell _ _ _ _ hk, Below.heap_setCell _ _ _ _ hk]
    exact ⟨(C1.out.1.kept K2.out).same fun k e => o3 k (by have := C1.out.2.1 k e; omega), C2.out.1.same fun k e => o3 k (by have := C2.out.2.1 k e; omega), hd, hm⟩
  have sft : SoftV W3 (.slice a1 f.dims.length c1) ∧ SoftV W3 (.slice a2 f.meas.length c2) := by
    have hB := (Array.getElem?_eq_some_iff.1 HB.out).1
    have s1 := K1.out.size
    have e1 : W.drew.heap.size = W.heap.size := rfl
    have o3 : ∀ k, k ≠ w.heap.size + 1 → W3.heap[k]? = w2.heap[k]? := fun k hk => by rw [hW3, Below.heap_setCell _ _ _ _ hk, Below.heap_setCell _ _ _ _ hk, Below.heap_setCell _ _ _ _ hk]
    exact ⟨(C1.out.2.2.kept K2.out).same fun k e => o3 k (by have := C1.out.2.1 k e; omega), C2.out.2.2.same fun k e => o3 k (by have := C2.out.2.1 k e; omega)⟩
  have hOWN : OwnIs f w (.returned (.agg #[.int .i64 f.time, .slice a1 f.dims.length c1, .slice a2 f.meas.length c2])) W3 := by
    have e1 := (HG.out.trans (Grows.drew W)).size
    have e2 := K1.out.size
    exact ⟨a1, c1, a2, c2, rfl, f3, k3, fun k e => Nat.le_trans e1 (C1.out.2.1 k e), fun k e => Nat.le_trans e1 (Nat.le_trans e2 (C2.out.2.1 k e)), sft.1, sft.2⟩
  have KW := Lib.hid k3
  have HW3 := Lib.hid hW3
  clear hW3 h3 k3 s0 s1 s2 z0 z1 z2 x0 x1 x2
  go_wp2_with fail
  simp [bodyPost, results, Try.results47, go_sem, r0, r1, r2]
  exact hOWN

end Go.Proofs.Ytcbgnikbaepkaaa
