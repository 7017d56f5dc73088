/- Two facts compared. -/
import Derived.Test.YtcbgnikbaepkaaaB
namespace Go.Proofs.Ytcbgnikbaepkaaa
open Go.RowKit

def faV (t : Int) (d m : Value) : Value := .agg #[.int .i64 t, d, m]

set_option maxHeartbeats 1600000 in
set_option maxRecDepth 100000 in
theorem compare_is (f g : Fa) (d m d' m' : Value) (w : World) (hf : FaAt w d m f) (hg : FaAt w d' m' g) :
    Calls Try.prog 14 #[faV f.time d m, faV g.time d' m'] w fun e w' => e = .returned (.int .i64 (cmpF f g)) ∧ Grows w w' := by
  unfold faV
  have hG : Grows w ((w.alloc (.cells #[.int .i64 f.time, d, m] 27)).alloc (.cells #[.int .i64 g.time, d', m'] 27)) := (Grows.alloc _ _).trans (Grows.alloc _ _)
  have h1 := hf.grows (hG.trans (Grows.drew _))
  have h2 := hg.grows (hG.trans (Grows.drew _))
  have H1 := Lib.hid h1
  have H2 := Lib.hid h2
  have HG := Lib.hid hG
  clear hf hg h1 h2 hG
  go_enter Try.func14, Try.ntmps14
  go_wp2_with fail
  obtain ⟨W, hW⟩ : ∃ W, W = (w.alloc (.cells #[.int .i64 f.time, d, m] 27)).alloc (.cells #[.int .i64 g.time, d', m'] 27) := ⟨_, rfl⟩
  have a0 : (w.alloc (.cells #[.int .i64 f.time, d, m] 27)).heap[w.heap.size]? = some (.cells #[.int .i64 f.time, d, m] 27 (0, 0)) := (MapKept.heap_alloc _ _).1
  have hs : (w.alloc (.cells #[.int .i64 f.time, d, m] 27)).heap.size = w.heap.size + 1 := by simp
  have b0 : W.heap[w.heap.size]? = some (.cells #[.int .i64 f.time, d, m] 27 (0, 0)) := by rw [hW, Below.heap_alloc _ _ _ (by simp)]; exact a0
  have b1 : W.heap[w.heap.size + 1]? = some (.cells #[.int .i64 g.time, d', m'] 27 (0, 0)) := by rw [hW, ← hs]; exact (MapKept.heap_alloc _ _).1
  have x0 : W.cell? ⟨w.heap.size, 0, none⟩ = some (.int .i64 f.time) := by simp [World.cell?, b0]
  have x1 : W.cell? ⟨w.heap.size, 1, none⟩ = some d := by simp [World.cell?, b0]
  have x2 : W.cell? ⟨w.heap.size, 2, none⟩ = some m := by simp [World.cell?, b0]
  have y0 : W.cell? ⟨w.heap.size + 1, 0, none⟩ = some (.int .i64 g.time) := by simp [World.cell?, b1]
  have y1 : W.cell? ⟨w.heap.size + 1, 1, none⟩ = some d' := by simp [World.cell?, b1]
  have y2 : W.cell? ⟨w.heap.size + 1, 2, none⟩ = some m' := by simp [World.cell?, b1]
  have h1 := H1.out
  have h2 := H2.out
  have hG := HG.out
  rw [← hW] at h1 h2 hG ⊢
  have K1 := Lib.hid h1
  have K2 := Lib.hid h2
  have KG := Lib.hid hG
  clear a0 hs b0 b1 h1 h2 hG hW H1 H2 HG
  go_still_tail 15, (by kernel_rfl)
  still_call (cmpI_is _ _ _)
  repeat still_step
  still_call (rowsS _ _ f.dims g.dims _ K1.out.dims K2.out.dims (Nat.le_trans K1.out.dl (by decide)))
  repeat still_step
  still_call (rowsI _ _ f.meas g.meas _ K1.out.meas K2.out.meas (Nat.le_trans K1.out.ml (by decide)))
  refine wpStill_nil ?_
  change wpList _ _ _ _ _ W.drew
  have hor : ∀ a b c, Cells (W.drew.alloc (.cells #[.int .i64 a, .int .i64 b, .int .i64 c] 3)) (.slice (some ⟨W.heap.size, 0, none⟩) 3 3) ([a, b, c].map (Value.int .i64)) := fun a b c => by
    refine .inr ⟨⟨W.heap.size, 0, none⟩, 3, rfl, fun j u hu => ?_⟩
    have h0 := (MapKept.heap_alloc W.drew (.cells #[.int .i64 a, .int .i64 b, .int .i64 c] 3)).1
    have e1 : (⟨W.heap.size, 0, none⟩ : Addr).add j = ⟨W.heap.size, j, none⟩ := by unfold Addr.add; split <;> simp_all
    rw [e1]
    have e2 : (W.drew.alloc (.cells #[.int .i64 a, .int .i64 b, .int .i64 c] 3)).heap[W.heap.size]? = some (.cells #[.int .i64 a, .int .i64 b, .int .i64 c] 3 (0, 0)) := h0
    match j with
    | 0 => cases hu; simp only [World.cell?, e2]; rfl
    | 1 => cases hu; simp only [World.cell?, e2]; rfl
    | 2 => cases hu; simp only [World.cell?, e2]; rfl
    | j + 3 => simp at hu
  have HOR := Lib.hid hor
  clear hor
  go_wp2_with (go_at_call 29; refine (or_is _ _ _ (HOR.out _ _ _) (by simp)).mono ?_; rintro e w' ⟨rfl, rfl⟩)
  go_ret
  exact ⟨rfl, (KG.out.trans (Grows.drew W)).trans (Grows.alloc _ _)⟩

end Go.Proofs.Ytcbgnikbaepkaaa
