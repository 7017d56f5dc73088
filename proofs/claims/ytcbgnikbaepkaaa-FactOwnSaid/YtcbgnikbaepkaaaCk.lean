/- FactChecks, walked. -/
import Derived.Test.YtcbgnikbaepkaaaAw
namespace Go.Proofs.Ytcbgnikbaepkaaa
open Go.Shelf Go.RowKit Go.Lib Go.Sort Go.Proofs

theorem three_blocks (w : World) (a b c : Array Value) (s t u : TypeId) : (((w.alloc (.cells a s)).alloc (.cells b t)).alloc (.cells c u)).heap[w.heap.size]? = some (.cells a s (0, 0)) ∧ (((w.alloc (.cells a s)).alloc (.cells b t)).alloc (.cells c u)).heap[w.heap.size + 1]? = some (.cells b t (0, 0)) ∧
    (((w.alloc (.cells a s)).alloc (.cells b t)).alloc (.cells c u)).heap[w.heap.size + 1 + 1]? = some (.cells c u (0, 0)) := by
  have new : ∀ (W : World) (o : Array Value) (e : TypeId), (W.alloc (.cells o e)).heap[W.heap.size]? = some (.cells o e (0, 0)) := fun W o e => (MapKept.heap_alloc W (.cells o e)).1
  have old : ∀ (W : World) (o : Obj) (k : Nat) (b : Obj), W.heap[k]? = some b → (W.alloc o).heap[k]? = some b := fun W o k b h => (Below.heap_alloc W o k (Array.getElem?_eq_some_iff.1 h).1).trans h
  have sz : ∀ (W : World) (o : Obj), (W.alloc o).heap.size = W.heap.size + 1 := fun W o => by simp
  refine ⟨old _ _ _ _ (old _ _ _ _ (new _ _ _)), old _ _ _ _ ?_, ?_⟩
  · have := new (w.alloc (.cells a s)) b t
    rwa [sz] at this
  · have := new ((w.alloc (.cells a s)).alloc (.cells b t)) c u
    rwa [sz, sz] at this

set_option maxHeartbeats 3200000 in
set_option maxRecDepth 100000 in
theorem checks_is (sd sm : Int) (x y : Ro) (w : World) (hx : x.ok w) (hy : y.ok w) :
    Calls Try.prog 3 #[.agg #[.int .i64 sd, .int .i64 sm], .agg #[.int .i64 x.f.time, x.d, x.m], .agg #[.int .i64 y.f.time, y.d, y.m]] w fun e w' => e = .returned (.bool true) ∧ Kept w w' := by
  have mixed : Try.prog.follows .mixedOrders = true := by kernel_rfl
  obtain ⟨W, hW⟩ : ∃ W, W = ((w.alloc (.cells #[.int .i64 sd, .int .i64 sm] 23)).alloc (.cells #[.int .i64 x.f.time, x.d, x.m] 27)).alloc (.cells #[.int .i64 y.f.time, y.d, y.m] 27) := ⟨_, rfl⟩
  have HX := Lib.hid hx
  have HY := Lib.hid hy
  have HW := Lib.hid hW
  clear hx hy hW
  go_enter Try.func3, Try.ntmps3
  go_wp2_with fail
  rw [← HW.out]
  have kW : Kept w W := by rw [HW.out]; exact (((Grows.alloc _ _).trans (Grows.alloc _ _)).trans (Grows.alloc _ _)).kept
  have blocks : W.heap[w.heap.size]? = some (.cells #[.int .i64 sd, .int .i64 sm] 23 (0, 0)) ∧ W.heap[w.heap.size + 1]? = some (.cells #[.int .i64 x.f.time, x.d, x.m] 27 (0, 0)) ∧ W.heap[w.heap.size + 1 + 1]? = some (.cells #[.int .i64 y.f.time, y.d, y.m] 27 (0, 0)) := by
    rw [HW.out]; exact three_blocks w _ _ _ _ _ _
  refine (awake_is W).mono ?_
  rintro e w1 ⟨rfl, hk1⟩
  have K1 := Lib.hid (kW.trans hk1)
  have b1 : w1.heap[w.heap.size]? = _ := (hk1.block _ (Array.getElem?_eq_some_iff.1 blocks.1).1).trans blocks.1
  have b2 : w1.heap[w.heap.size + 1]? = _ := (hk1.block _ (Array.getElem?_eq_some_iff.1 blocks.2.1).1).trans blocks.2.1
  have b3 : w1.heap[w.heap.size + 1 + 1]? = _ := (hk1.block _ (Array.getElem?_eq_some_iff.1 blocks.2.2).1).trans blocks.2.2
  have B1 := Lib.hid b1
  have B2 := Lib.hid b2
  have B3 := Lib.hid b3
  have s0 : w1.cell? ⟨w.heap.size, 0, none⟩ = some (.int .i64 sd) := by simp only [World.cell?, b1]; rfl
  have s1 : w1.cell? ⟨w.heap.size, 1, none⟩ = some (.int .i64 sm) := by simp only [World.cell?, b1]; rfl
  clear kW blocks hk1 b1 b2 b3
  go_wp2_with fail
  refine (refFine_is sd sm w1).mono ?_
  rintro e w2 ⟨rfl, hg2⟩
  have G2 := Lib.hid hg2
  have l1 := Nat.lt_of_lt_of_le (Array.getElem?_eq_some_iff.1 B1.out).1 hg2.size
  have l2 := Nat.lt_of_lt_of_le (Array.getElem?_eq_some_iff.1 B2.out).1 hg2.size
  have l3 := Nat.lt_of_lt_of_le (Array.getElem?_eq_some_iff.1 B3.out).1 hg2.size
  have c0 : ∀ n os, (grow (w2.drewN n) os).cell? ⟨w.heap.size, 0, none⟩ = some (.int .i64 sd) := cell_grown l1 (hg2.cell s0)
  have c1 : ∀ n os, (grow (w2.drewN n) os).cell? ⟨w.heap.size, 1, none⟩ = some (.int .i64 sm) := cell_grown l1 (hg2.cell s1)
  have x0 : ∀ n os, (grow (w2.drewN n) os).cell? ⟨w.heap.size + 1, 0, none⟩ = some (.int .i64 x.f.time) := cell_grown l2 (hg2.cell (by simp only [World.cell?, B2.out]; rfl))
  have x1 : ∀ n os, (grow (w2.drewN n) os).cell? ⟨w.heap.size + 1, 1, none⟩ = some x.d := cell_grown l2 (hg2.cell (by simp only [World.cell?, B2.out]; rfl))
  have x2 : ∀ n os, (grow (w2.drewN n) os).cell? ⟨w.heap.size + 1, 2, none⟩ = some x.m := cell_grown l2 (hg2.cell (by simp only [World.cell?, B2.out]; rfl))
  have y0 : ∀ n os, (grow (w2.drewN n) os).cell? ⟨w.heap.size + 1 + 1, 0, none⟩ = some (.int .i64 y.f.time) := cell_grown l3 (hg2.cell (by simp only [World.cell?, B3.out]; rfl))
  have y1 : ∀ n os, (grow (w2.drewN n) os).cell? ⟨w.heap.size + 1 + 1, 1, none⟩ = some y.d := cell_grown l3 (hg2.cell (by simp only [World.cell?, B3.out]; rfl))
  have y2 : ∀ n os, (grow (w2.drewN n) os).cell? ⟨w.heap.size + 1 + 1, 2, none⟩ = some y.m := cell_grown l3 (hg2.cell (by simp only [World.cell?, B3.out]; rfl))
  have okx : ∀ n os, FaAt (grow (w2.drewN n) os) x.d x.m x.f := fun n os => (FaAt.kept HX.out (K1.out.trans hg2.kept)).grows ⟨n, os, rfl⟩
  have oky : ∀ n os, FaAt (grow (w2.drewN n) os) y.d y.m y.f := fun n os => (FaAt.kept HY.out (K1.out.trans hg2.kept)).grows ⟨n, os, rfl⟩
  have F11 : Hid (∀ n os, Calls Try.prog 11 #[.agg #[.int .i64 sd, .int .i64 sm]] (grow (w2.drewN n) os) fun e w' => e = .returned (.int .i64 (if fineB sd sm then 0 else 1)) ∧ ∃ q os', w' = grow ((grow (w2.drewN n) os).drewN q) os') := fun n os => fine_is sd sm (grow (w2.drewN n) os)
  have F12 : Hid (∀ n os, Calls Try.prog 12 #[.agg #[.int .i64 sd, .int .i64 sm], .agg #[.int .i64 x.f.time, x.d, x.m]] (grow (w2.drewN n) os) fun e w' => e = .returned (.int .i64 (chk sd sm x.f)) ∧ ∃ q os', w' = grow ((grow (w2.drewN n) os).drewN q) os') := fun n os => check_is sd sm x.f x.d x.m _ (okx n os)
  have F13 : Hid (∀ n os, Calls Try.prog 13 #[.agg #[.int .i64 sd, .int .i64 sm], .agg #[.int .i64 x.f.time, x.d, x.m]] (grow (w2.drewN n) os) fun e w' => e = .returned (.int .i64 (chk sd sm x.f)) ∧ ∃ q os', w' = grow ((grow (w2.drewN n) os).drewN q) os') := fun n os => refCheck_is sd sm x.f x.d x.m _ (okx n os)
  have F14 : Hid (∀ n os, Calls Try.prog 14 #[.agg #[.int .i64 x.f.time, x.d, x.m], .agg #[.int .i64 y.f.time, y.d, y.m]] (grow (w2.drewN n) os) fun e w' => e = .returned (.int .i64 (cmpF x.f y.f)) ∧ ∃ q os', w' = grow ((grow (w2.drewN n) os).drewN q) os') := fun n os => compare_is x.f y.f x.d x.m y.d y.m _ (okx n os) (oky n os)
  have F15 : Hid (∀ n os, Calls Try.prog 15 #[.agg #[.int .i64 x.f.time, x.d, x.m], .agg #[.int .i64 y.f.time, y.d, y.m]] (grow (w2.drewN n) os) fun e w' => e = .returned (.int .i64 (cmpF x.f y.f)) ∧ ∃ q os', w' = grow ((grow (w2.drewN n) os).drewN q) os') := fun n os => refCompare_is x.f y.f x.d x.m y.d y.m _ (okx n os) (oky n os)
  have F16 : Hid (∀ n os, Calls Try.prog 14 #[.agg #[.int .i64 x.f.time, x.d, x.m], .agg #[.int .i64 x.f.time, x.d, x.m]] (grow (w2.drewN n) os) fun e w' => e = .returned (.int .i64 (cmpF x.f x.f)) ∧ ∃ q os', w' = grow ((grow (w2.drewN n) os).drewN q) os') := fun n os => compare_is x.f x.f x.d x.m x.d x.m _ (okx n os) (okx n os)
  have hz : (cmpF x.f x.f == 0) = true := by rw [(isCmp_F.eq x.f x.f).2 rfl]; rfl
  clear hg2 s0 s1 okx oky l1 l2 l3
  obtain ⟨fb, hfb⟩ : ∃ fb, fb = fineB sd sm := ⟨_, rfl⟩
  rw [← hfb] at F11 ⊢
  have HFB := Lib.hid hfb
  clear hfb
  cases fb
  · simp only [Bool.false_eq_true, if_false] at F11
    go_wp2_with fail
    go_quiet_grown ((first | (go_at_call 11; refine Calls.grown_of (F11.out _ _)) | (go_at_call 12; refine Calls.grown_of (F12.out _ _)) | (go_at_call 13; refine Calls.grown_of (F13.out _ _)) | (go_at_call 15; refine Calls.grown_of (F15.out _ _)) | (go_at_call 14; (first | with_reducible exact Calls.grown_of (F14.out _ _) | with_reducible exact Calls.grown_of (F16.out _ _)))))
    obtain ⟨V, hV⟩ : ∃ V, V = grow (w2.drewN nq) osq := ⟨_, rfl⟩
    have gV : Kept w V := (K1.out.trans G2.out.kept).trans (Grows.kept ⟨nq, osq, hV⟩)
    change Exit.then _ _ _ _ (grow (w2.drewN nq) osq)
    rw [← hV]
    have GV := Lib.hid gV
    clear hV gV
    go_wp2_with fail
    go_ret
    exact ⟨rfl, GV.out⟩
  · simp only [if_true] at F11
    go_wp2_with fail
    go_quiet_grown ((first | (go_at_call 11; refine Calls.grown_of (F11.out _ _)) | (go_at_call 12; refine Calls.grown_of (F12.out _ _)) | (go_at_call 13; refine Calls.grown_of (F13.out _ _)) | (go_at_call 15; refine Calls.grown_of (F15.out _ _)) | (go_at_call 14; (first | with_reducible exact Calls.grown_of (F14.out _ _) | with_reducible exact Calls.grown_of (F16.out _ _)))))
    obtain ⟨V, hV⟩ : ∃ V, V = grow (w2.drewN nq) osq := ⟨_, rfl⟩
    have gV : Kept w V := (K1.out.trans G2.out.kept).trans (Grows.kept ⟨nq, osq, hV⟩)
    change Exit.then _ _ _ _ (grow (w2.drewN nq) osq)
    rw [← hV]
    have GV := Lib.hid gV
    clear hV gV
    go_wp2_with fail
    go_ret
    exact ⟨rfl, GV.out⟩

end Go.Proofs.Ytcbgnikbaepkaaa
