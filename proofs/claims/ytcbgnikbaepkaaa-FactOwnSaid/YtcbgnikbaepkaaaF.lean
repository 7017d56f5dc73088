/- A fact is looked at: the program's way and the document's. -/
import Derived.Test.YtcbgnikbaepkaaaE
namespace Go.Proofs.Ytcbgnikbaepkaaa
open Go.RowKit

/-- May the fact be? -/
def chk (sd sm : Int) (f : Fa) : Int :=
  if fineB sd sm then (if f.time < 0 ∨ 1099511627776 ≤ f.time ∨ (f.dims.length : Int) ≠ sd ∨ (f.meas.length : Int) ≠ sm ∨ anyLong f.dims = true then 40 else 0) else 1

theorem chk_bad {sd sm : Int} {f : Fa} (h : fineB sd sm = true) (h2 : f.time < 0 ∨ 1099511627776 ≤ f.time ∨ (f.dims.length : Int) ≠ sd ∨ (f.meas.length : Int) ≠ sm ∨ anyLong f.dims = true) : chk sd sm f = 40 := by
  unfold chk; rw [if_pos h, if_pos h2]

theorem chk_ok {sd sm : Int} {f : Fa} (h : fineB sd sm = true) (h2 : ¬ (f.time < 0 ∨ 1099511627776 ≤ f.time ∨ (f.dims.length : Int) ≠ sd ∨ (f.meas.length : Int) ≠ sm ∨ anyLong f.dims = true)) : chk sd sm f = 0 := by
  unfold chk; rw [if_pos h, if_neg h2]

set_option maxHeartbeats 1600000 in
set_option maxRecDepth 100000 in
theorem check_is (sd sm : Int) (f : Fa) (d m : Value) (w : World) (hf : FaAt w d m f) :
    Calls Try.prog 12 #[scV sd sm, faV f.time d m] w fun e w' => e = .returned (.int .i64 (chk sd sm f)) ∧ Grows w w' := by
  unfold scV faV
  have hG : Grows w ((w.alloc (.cells #[.int .i64 sd, .int .i64 sm] 23)).alloc (.cells #[.int .i64 f.time, d, m] 27)) := (Grows.alloc _ _).trans (Grows.alloc _ _)
  obtain ⟨a1, c1, rfl, hda⟩ := hf.dims.slice
  obtain ⟨a2, c2, rfl, hma⟩ := hf.meas.slice
  have hfd := hf.dl
  have hfm := hf.ml
  have HDI := Lib.hid hf.dims
  simp only [List.length_map]
  simp only [List.length_map] at hG HDI
  clear hma
  have hk : ∀ V, Grows ((w.alloc (.cells #[.int .i64 sd, .int .i64 sm] 23)).alloc (.cells #[.int .i64 f.time, .slice a1 f.dims.length c1, .slice a2 f.meas.length c2] 27)) V →
      (V.cell? ⟨w.heap.size, 0, none⟩ = some (.int .i64 sd) ∧ V.cell? ⟨w.heap.size, 1, none⟩ = some (.int .i64 sm)) ∧ V.cell? ⟨w.heap.size + 1, 0, none⟩ = some (.int .i64 f.time) ∧ V.cell? ⟨w.heap.size + 1, 1, none⟩ = some (.slice a1 f.dims.length c1) ∧ V.cell? ⟨w.heap.size + 1, 2, none⟩ = some (.slice a2 f.meas.length c2) := by
    intro V hV
    have a0 : (w.alloc (.cells #[.int .i64 sd, .int .i64 sm] 23)).heap[w.heap.size]? = some (.cells #[.int .i64 sd, .int .i64 sm] 23 (0, 0)) := (MapKept.heap_alloc _ _).1
    have hs : (w.alloc (.cells #[.int .i64 sd, .int .i64 sm] 23)).heap.size = w.heap.size + 1 := by simp
    have b0 : ((w.alloc (.cells #[.int .i64 sd, .int .i64 sm] 23)).alloc (.cells #[.int .i64 f.time, .slice a1 f.dims.length c1, .slice a2 f.meas.length c2] 27)).heap[w.heap.size]? = some (.cells #[.int .i64 sd, .int .i64 sm] 23 (0, 0)) := by rw [Below.heap_alloc _ _ _ (by simp)]; exact a0
    have b1 : ((w.alloc (.cells #[.int .i64 sd, .int .i64 sm] 23)).alloc (.cells #[.int .i64 f.time, .slice a1 f.dims.length c1, .slice a2 f.meas.length c2] 27)).heap[w.heap.size + 1]? = some (.cells #[.int .i64 f.time, .slice a1 f.dims.length c1, .slice a2 f.meas.length c2] 27 (0, 0)) := by rw [← hs]; exact (MapKept.heap_alloc _ _).1
    exact ⟨⟨hV.cell (by simp [World.cell?, b0]), hV.cell (by simp [World.cell?, b0])⟩, hV.cell (by simp only [World.cell?, b1]; rfl), hV.cell (by simp only [World.cell?, b1]; rfl), hV.cell (by simp only [World.cell?, b1]; rfl)⟩
  have HK := Lib.hid hk
  have HG := Lib.hid hG
  have HDA := Lib.hid hda
  obtain ⟨W, hW⟩ : ∃ W, W = (w.alloc (.cells #[.int .i64 sd, .int .i64 sm] 23)).alloc (.cells #[.int .i64 f.time, .slice a1 f.dims.length c1, .slice a2 f.meas.length c2] 27) := ⟨_, rfl⟩
  rw [← hW] at HK HG
  have HW := Lib.hid hW
  clear hf hG hda hk hW
  obtain ⟨q, hq⟩ : ∃ q, q = fineB sd sm := ⟨_, rfl⟩
  have HQ := Lib.hid hq
  clear hq
  cases q
  · have hc : chk sd sm f = 1 := by unfold chk; rw [← HQ.out]; rfl
    rw [hc]
    clear hc
    go_enter Try.func12, Try.ntmps12
    go_wp2_with (go_at_call 11; rw [← HW.out]; refine (fine_is sd sm _).mono ?_; rintro e w1 ⟨rfl, hg1⟩; rw [← HQ.out]; have G1 := Lib.hid hg1; clear hg1)
    go_ret
    exact ⟨rfl, HG.out.trans G1.out⟩
  · have hq : fineB sd sm = true := HQ.out.symm
    have key : (f.time < 0 ∨ 0 ≤ f.time ∧ 1099511627776 ≤ f.time ∨ 0 ≤ f.time ∧ f.time < 1099511627776 ∧ (f.dims.length : Int) ≠ sd ∨ 0 ≤ f.time ∧ f.time < 1099511627776 ∧ (f.dims.length : Int) = sd ∧ (f.meas.length : Int) ≠ sm) ∨ 0 ≤ f.time ∧ f.time < 1099511627776 ∧ (f.dims.length : Int) = sd ∧ (f.meas.length : Int) = sm := by omega
    rcases key with hbad | ⟨t1, t2, t3, t4⟩
    · have hc : chk sd sm f = 40 := chk_bad hq (by omega)
      rw [hc]
      clear hc hq
      rcases hbad with t1 | ⟨t1, t2⟩ | ⟨t1, t2, t3⟩ | ⟨t1, t2, t3, t4⟩
      · have u1 : decide (f.time < 0) = true := by simpa using t1
        go_enter Try.func12, Try.ntmps12
        go_wp2_with (go_at_call 11; rw [← HW.out]; refine (fine_is sd sm _).mono ?_; rintro e w1 ⟨rfl, hg1⟩; rw [← HQ.out]; have G1 := Lib.hid hg1; (obtain ⟨⟨z0, z1⟩, z2, z3, z4⟩ := HK.out w1 hg1); clear hg1)
        go_ret
        exact ⟨rfl, HG.out.trans G1.out⟩
      · have u1 : ¬ f.time < 0 := by omega
        go_enter Try.func12, Try.ntmps12
        go_wp2_with (go_at_call 11; rw [← HW.out]; refine (fine_is sd sm _).mono ?_; rintro e w1 ⟨rfl, hg1⟩; rw [← HQ.out]; have G1 := Lib.hid hg1; (obtain ⟨⟨z0, z1⟩, z2, z3, z4⟩ := HK.out w1 hg1); clear hg1)
        go_ret
        exact ⟨rfl, HG.out.trans G1.out⟩
      · have u1 : ¬ f.time < 0 := by omega
        have u2 : ¬ 1099511627776 ≤ f.time := by omega
        have u3 : ((f.dims.length : Int) == sd) = false := by simpa using t3
        go_enter Try.func12, Try.ntmps12
        go_wp2_with (go_at_call 11; rw [← HW.out]; refine (fine_is sd sm _).mono ?_; rintro e w1 ⟨rfl, hg1⟩; rw [← HQ.out]; have G1 := Lib.hid hg1; (obtain ⟨⟨z0, z1⟩, z2, z3, z4⟩ := HK.out w1 hg1); clear hg1)
        go_ret
        exact ⟨rfl, HG.out.trans G1.out⟩
      · have u1 : ¬ f.time < 0 := by omega
        have u2 : ¬ 1099511627776 ≤ f.time := by omega
        have u4 : ((f.meas.length : Int) == sm) = false := by simpa using t4
        subst t3
        go_enter Try.func12, Try.ntmps12
        go_wp2_with (go_at_call 11; rw [← HW.out]; refine (fine_is _ sm _).mono ?_; rintro e w1 ⟨rfl, hg1⟩; rw [← HQ.out]; have G1 := Lib.hid hg1; (obtain ⟨⟨z0, z1⟩, z2, z3, z4⟩ := HK.out w1 hg1); clear hg1)
        go_ret
        exact ⟨rfl, HG.out.trans G1.out⟩
    · have u1 : ¬ f.time < 0 := by omega
      have u2 : ¬ 1099511627776 ≤ f.time := by omega
      have hc : chk sd sm f = if anyLong f.dims then 40 else 0 := by
        cases h : anyLong f.dims
        · exact chk_ok hq (by rw [h]; rintro (h | h | h | h | h) <;> first | omega | exact absurd h (by decide))
        · exact chk_bad hq (.inr (.inr (.inr (.inr h))))
      rw [hc]
      clear hc hq
      subst t3
      subst t4
      obtain ⟨lg, hlg⟩ : ∃ lg, lg = anyLong f.dims := ⟨_, rfl⟩
      rw [← hlg]
      have HLG := Lib.hid hlg
      clear hlg
      cases lg
      all_goals
        go_enter Try.func12, Try.ntmps12
        go_wp2_with (first | (go_at_call 11; rw [← HW.out]; refine (fine_is _ _ _).mono ?_; rintro e w1 ⟨rfl, hg1⟩; rw [← HQ.out]; have G1 := Lib.hid hg1; (obtain ⟨⟨z0, z1⟩, z2, z3, z4⟩ := HK.out w1 hg1); clear hg1) | (go_at_call 28; refine (containsLong_is _ f.dims _ (HDI.out.grows (HG.out.trans G1.out)) (Nat.le_trans hfd (by decide))).mono ?_; rintro e w' ⟨rfl, rfl⟩; rw [← HLG.out]))
        go_ret
        exact ⟨rfl, HG.out.trans G1.out⟩

set_option maxHeartbeats 1600000 in
set_option maxRecDepth 100000 in
theorem refCheck_is (sd sm : Int) (f : Fa) (d m : Value) (w : World) (hf : FaAt w d m f) :
    Calls Try.prog 13 #[scV sd sm, faV f.time d m] w fun e w' => e = .returned (.int .i64 (chk sd sm f)) ∧ Grows w w' := by
  unfold scV faV
  have hG : Grows w ((w.alloc (.cells #[.int .i64 sd, .int .i64 sm] 23)).alloc (.cells #[.int .i64 f.time, d, m] 27)) := (Grows.alloc _ _).trans (Grows.alloc _ _)
  obtain ⟨a1, c1, rfl, hda⟩ := hf.dims.slice
  obtain ⟨a2, c2, rfl, hma⟩ := hf.meas.slice
  have hfd := hf.dl
  have hfm := hf.ml
  have HDI := Lib.hid hf.dims
  simp only [List.length_map]
  simp only [List.length_map] at hG HDI
  clear hma
  have hk : ∀ V, Grows ((w.alloc (.cells #[.int .i64 sd, .int .i64 sm] 23)).alloc (.cells #[.int .i64 f.time, .slice a1 f.dims.length c1, .slice a2 f.meas.length c2] 27)) V →
      (V.cell? ⟨w.heap.size, 0, none⟩ = some (.int .i64 sd) ∧ V.cell? ⟨w.heap.size, 1, none⟩ = some (.int .i64 sm)) ∧ V.cell? ⟨w.heap.size + 1, 0, none⟩ = some (.int .i64 f.time) ∧ V.cell? ⟨w.heap.size + 1, 1, none⟩ = some (.slice a1 f.dims.length c1) ∧ V.cell? ⟨w.heap.size + 1, 2, none⟩ = some (.slice a2 f.meas.length c2) := by
    intro V hV
    have a0 : (w.alloc (.cells #[.int .i64 sd, .int .i64 sm] 23)).heap[w.heap.size]? = some (.cells #[.int .i64 sd, .int .i64 sm] 23 (0, 0)) := (MapKept.heap_alloc _ _).1
    have hs : (w.alloc (.cells #[.int .i64 sd, .int .i64 sm] 23)).heap.size = w.heap.size + 1 := by simp
    have b0 : ((w.alloc (.cells #[.int .i64 sd, .int .i64 sm] 23)).alloc (.cells #[.int .i64 f.time, .slice a1 f.dims.length c1, .slice a2 f.meas.length c2] 27)).heap[w.heap.size]? = some (.cells #[.int .i64 sd, .int .i64 sm] 23 (0, 0)) := by rw [Below.heap_alloc _ _ _ (by simp)]; exact a0
    have b1 : ((w.alloc (.cells #[.int .i64 sd, .int .i64 sm] 23)).alloc (.cells #[.int .i64 f.time, .slice a1 f.dims.length c1, .slice a2 f.meas.length c2] 27)).heap[w.heap.size + 1]? = some (.cells #[.int .i64 f.time, .slice a1 f.dims.length c1, .slice a2 f.meas.length c2] 27 (0, 0)) := by rw [← hs]; exact (MapKept.heap_alloc _ _).1
    exact ⟨⟨hV.cell (by simp [World.cell?, b0]), hV.cell (by simp [World.cell?, b0])⟩, hV.cell (by simp only [World.cell?, b1]; rfl), hV.cell (by simp only [World.cell?, b1]; rfl), hV.cell (by simp only [World.cell?, b1]; rfl)⟩
  have HK := Lib.hid hk
  have HG := Lib.hid hG
  have HDA := Lib.hid hda
  obtain ⟨W, hW⟩ : ∃ W, W = (w.alloc (.cells #[.int .i64 sd, .int .i64 sm] 23)).alloc (.cells #[.int .i64 f.time, .slice a1 f.dims.length c1, .slice a2 f.meas.length c2] 27) := ⟨_, rfl⟩
  rw [← hW] at HK HG
  have HW := Lib.hid hW
  clear hf hG hda hk hW
  obtain ⟨q, hq⟩ : ∃ q, q = fineB sd sm := ⟨_, rfl⟩
  have HQ := Lib.hid hq
  clear hq
  cases q
  · have hc : chk sd sm f = 1 := by unfold chk; rw [← HQ.out]; rfl
    rw [hc]
    clear hc
    go_enter Try.func13, Try.ntmps13
    go_wp2_with (go_at_call 10; rw [← HW.out]; refine (refFine_is _ _ _).mono ?_; rintro e w1 ⟨rfl, hg1⟩; rw [← HQ.out]; have G1 := Lib.hid hg1; (obtain ⟨⟨z0, z1⟩, z2, z3, z4⟩ := HK.out w1 hg1); clear hg1)
    go_ret
    exact ⟨rfl, HG.out.trans G1.out⟩
  · have hq : fineB sd sm = true := HQ.out.symm
    have key : (f.time < 0 ∨ 0 ≤ f.time ∧ 1099511627776 ≤ f.time ∨ 0 ≤ f.time ∧ f.time < 1099511627776 ∧ (f.dims.length : Int) ≠ sd ∨ 0 ≤ f.time ∧ f.time < 1099511627776 ∧ (f.dims.length : Int) = sd ∧ (f.meas.length : Int) ≠ sm) ∨ 0 ≤ f.time ∧ f.time < 1099511627776 ∧ (f.dims.length : Int) = sd ∧ (f.meas.length : Int) = sm := by omega
    rcases key with hbad | ⟨t1, t2, t3, t4⟩
    · have hc : chk sd sm f = 40 := chk_bad hq (by omega)
      rw [hc]
      clear hc hq
      rcases hbad with t1 | ⟨t1, t2⟩ | ⟨t1, t2, t3⟩ | ⟨t1, t2, t3, t4⟩
      · have u1 : decide (f.time < 0) = true := by simpa using t1
        go_enter Try.func13, Try.ntmps13
        go_wp2_with (go_at_call 10; rw [← HW.out]; refine (refFine_is _ _ _).mono ?_; rintro e w1 ⟨rfl, hg1⟩; rw [← HQ.out]; have G1 := Lib.hid hg1; (obtain ⟨⟨z0, z1⟩, z2, z3, z4⟩ := HK.out w1 hg1); clear hg1)
        go_ret
        exact ⟨rfl, HG.out.trans G1.out⟩
      · have u1 : ¬ f.time < 0 := by omega
        go_enter Try.func13, Try.ntmps13
        go_wp2_with (go_at_call 10; rw [← HW.out]; refine (refFine_is _ _ _).mono ?_; rintro e w1 ⟨rfl, hg1⟩; rw [← HQ.out]; have G1 := Lib.hid hg1; (obtain ⟨⟨z0, z1⟩, z2, z3, z4⟩ := HK.out w1 hg1); clear hg1)
        go_ret
        exact ⟨rfl, HG.out.trans G1.out⟩
      · have u1 : ¬ f.time < 0 := by omega
        have u2 : ¬ 1099511627776 ≤ f.time := by omega
        have u3 : ((f.dims.length : Int) == sd) = false := by simpa using t3
        go_enter Try.func13, Try.ntmps13
        go_wp2_with (go_at_call 10; rw [← HW.out]; refine (refFine_is _ _ _).mono ?_; rintro e w1 ⟨rfl, hg1⟩; rw [← HQ.out]; have G1 := Lib.hid hg1; (obtain ⟨⟨z0, z1⟩, z2, z3, z4⟩ := HK.out w1 hg1); clear hg1)
        go_ret
        exact ⟨rfl, HG.out.trans G1.out⟩
      · have u1 : ¬ f.time < 0 := by omega
        have u2 : ¬ 1099511627776 ≤ f.time := by omega
        have u4 : ((f.meas.length : Int) == sm) = false := by simpa using t4
        have u5 : ((f.meas.length : Int) != sm) = true := by simpa using t4
        subst t3
        go_enter Try.func13, Try.ntmps13
        go_wp2_with (go_at_call 10; rw [← HW.out]; refine (refFine_is _ _ _).mono ?_; rintro e w1 ⟨rfl, hg1⟩; rw [← HQ.out]; have G1 := Lib.hid hg1; (obtain ⟨⟨z0, z1⟩, z2, z3, z4⟩ := HK.out w1 hg1); clear hg1)
        go_ret
        exact ⟨rfl, HG.out.trans G1.out⟩
    · have u1 : ¬ f.time < 0 := by omega
      have u2 : ¬ 1099511627776 ≤ f.time := by omega
      have hc : chk sd sm f = if anyLong f.dims then 40 else 0 := by
        cases h : anyLong f.dims
        · exact chk_ok hq (by rw [h]; rintro (h | h | h | h | h) <;> first | omega | exact absurd h (by decide))
        · exact chk_bad hq (.inr (.inr (.inr (.inr h))))
      rw [hc]
      obtain ⟨res, hres⟩ : ∃ res : Int, res = if anyLong f.dims then 40 else 0 := ⟨_, rfl⟩
      rw [← hres]
      have HRES := Lib.hid hres
      clear hc hq hres
      subst t3
      subst t4
      go_enter Try.func13, Try.ntmps13
      go_wp2_with (go_at_call 10; rw [← HW.out]; refine (refFine_is _ _ _).mono ?_; rintro e w1 ⟨rfl, hg1⟩; rw [← HQ.out]; have G1 := Lib.hid hg1; (obtain ⟨⟨z0, z1⟩, z2, z3, z4⟩ := HK.out w1 hg1); clear hg1)
      go_loop [6] (fun i => ∃ k : Nat, k ≤ f.dims.length ∧ i = .int .i64 k ∧ anyLong f.dims = anyLong (f.dims.drop k)) (fun i => f.dims.length - (intOf i).toNat)
      case atStart => exact ⟨0, by omega, rfl, rfl⟩
      case round =>
        obtain ⟨k, hk, rfl, hcmp⟩ := hrel
        have HC := Lib.hid hcmp
        clear hcmp
        by_cases hlt : k < f.dims.length
        · obtain ⟨x, hx⟩ : ∃ x, f.dims[k]? = some x := ⟨_, List.getElem?_eq_getElem hlt⟩
          obtain ⟨A, rfl, hcA⟩ := HDA.out k (.string x) (by rw [List.getElem?_map, hx]; rfl)
          have hcA1 := (HG.out.trans G1.out).cell hcA
          have hd : f.dims.drop k = x :: f.dims.drop (k + 1) := by
            obtain ⟨h1, h2⟩ := List.getElem?_eq_some_iff.1 hx
            rw [List.drop_eq_getElem_cons h1, h2]
          have HD := Lib.hid hd
          clear hx hd hcA
          by_cases hlg : 64 < x.size
          · have hi : (64 : Int) < (x.size : Int) := by omega
            have hr : anyLong f.dims = true := by rw [HC.out, HD.out, anyLong, List.any_cons]; simp [hlg]
            go_wp2_with fail
            go_ret
            exact ⟨by rw [HRES.out, hr]; rfl, HG.out.trans G1.out⟩
          · have hi : ¬ (64 : Int) < (x.size : Int) := by omega
            go_wp2_with fail
            go_round
            case rel => exact ⟨k + 1, by omega, by go_num, HC.out.trans (by rw [HD.out, anyLong, List.any_cons]; simp [hlg]; rfl)⟩
            case measure => simp [intOf]; omega
        · obtain rfl : k = f.dims.length := by omega
          have hr : anyLong f.dims = false := by rw [HC.out, List.drop_length]; rfl
          go_wp2_with fail
          go_ret
          exact ⟨by rw [HRES.out, hr]; rfl, HG.out.trans G1.out⟩

end Go.Proofs.Ytcbgnikbaepkaaa
