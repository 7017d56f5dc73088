/- Two facts compared as the document says. -/
import Derived.Test.YtcbgnikbaepkaaaC
namespace Go.Proofs.Ytcbgnikbaepkaaa
open Go.RowKit

theorem cmpI_zero {a b : Int} (h : cmpI a b = 0) : a = b := by
  unfold cmpI at h
  by_cases h1 : a < b
  · rw [if_pos h1] at h; cases h
  · by_cases h2 : b < a
    · rw [if_neg h1, if_pos h2] at h; cases h
    · omega

theorem cmpF_time {f g : Fa} (h : cmpI f.time g.time ≠ 0) : cmpF f g = cmpI f.time g.time := by
  unfold cmpF; rw [firstOf, if_pos h]
theorem cmpF_dims {f g : Fa} (h : cmpI f.time g.time = 0) (h2 : cmpL cmpS f.dims g.dims ≠ 0) : cmpF f g = cmpL cmpS f.dims g.dims := by
  unfold cmpF; rw [firstOf, if_neg (by simpa using h), firstOf, if_pos h2]
theorem cmpF_meas {f g : Fa} (h : cmpI f.time g.time = 0) (h2 : cmpL cmpS f.dims g.dims = 0) : cmpF f g = cmpL cmpI f.meas g.meas := by
  unfold cmpF
  rw [firstOf, if_neg (by simpa using h), firstOf, if_neg (by simpa using h2), firstOf]
  by_cases h3 : cmpL cmpI f.meas g.meas = 0
  · rw [if_neg (by simpa using h3), h3]; rfl
  · rw [if_pos h3]

theorem cmpL_short {α : Type} (f : α → α → Int) {l r : List α} {k : Nat} (h1 : l.length ≤ k) (h2 : k < r.length) : cmpL f (l.drop k) (r.drop k) = -1 := by
  rw [List.drop_eq_getElem_cons h2, List.drop_of_length_le h1, cmpL]
theorem cmpL_both {α : Type} (f : α → α → Int) {l r : List α} {k : Nat} (h1 : l.length ≤ k) (h2 : r.length ≤ k) : cmpL f (l.drop k) (r.drop k) = 0 := by
  rw [List.drop_of_length_le h1, List.drop_of_length_le h2, cmpL]

set_option maxHeartbeats 3200000 in
set_option maxRecDepth 100000 in
theorem refCompare_is (f g : Fa) (d m d' m' : Value) (w : World) (hf : FaAt w d m f) (hg : FaAt w d' m' g) :
    Calls Try.prog 15 #[faV f.time d m, faV g.time d' m'] w fun e w' => e = .returned (.int .i64 (cmpF f g)) ∧ Grows w w' := by
  unfold faV
  have hG : Grows w ((w.alloc (.cells #[.int .i64 f.time, d, m] 27)).alloc (.cells #[.int .i64 g.time, d', m'] 27)) := (Grows.alloc _ _).trans (Grows.alloc _ _)
  obtain ⟨a1, c1, rfl, hda⟩ := hf.dims.slice
  obtain ⟨a2, c2, rfl, hma⟩ := hf.meas.slice
  obtain ⟨b1, e1, rfl, hdb⟩ := hg.dims.slice
  obtain ⟨b2, e2, rfl, hmb⟩ := hg.meas.slice
  simp only [List.length_map]
  simp only [List.length_map] at hG
  have hfd := hf.dl
  have hfm := hf.ml
  have hgd := hg.dl
  have hgm := hg.ml
  obtain ⟨W, hW⟩ : ∃ W, W = (w.alloc (.cells #[.int .i64 f.time, .slice a1 f.dims.length c1, .slice a2 f.meas.length c2] 27)).alloc (.cells #[.int .i64 g.time, .slice b1 g.dims.length e1, .slice b2 g.meas.length e2] 27) := ⟨_, rfl⟩
  have a0 : (w.alloc (.cells #[.int .i64 f.time, .slice a1 f.dims.length c1, .slice a2 f.meas.length c2] 27)).heap[w.heap.size]? = some (.cells #[.int .i64 f.time, .slice a1 f.dims.length c1, .slice a2 f.meas.length c2] 27 (0, 0)) := (MapKept.heap_alloc _ _).1
  have hs : (w.alloc (.cells #[.int .i64 f.time, .slice a1 f.dims.length c1, .slice a2 f.meas.length c2] 27)).heap.size = w.heap.size + 1 := by simp
  have b0 : W.heap[w.heap.size]? = some (.cells #[.int .i64 f.time, .slice a1 f.dims.length c1, .slice a2 f.meas.length c2] 27 (0, 0)) := by rw [hW, Below.heap_alloc _ _ _ (by simp)]; exact a0
  have b3 : W.heap[w.heap.size + 1]? = some (.cells #[.int .i64 g.time, .slice b1 g.dims.length e1, .slice b2 g.meas.length e2] 27 (0, 0)) := by rw [hW, ← hs]; exact (MapKept.heap_alloc _ _).1
  rw [← hW] at hG
  have x0 : W.cell? ⟨w.heap.size, 0, none⟩ = some (.int .i64 f.time) := by simp [World.cell?, b0]
  have y0 : W.cell? ⟨w.heap.size + 1, 0, none⟩ = some (.int .i64 g.time) := by simp [World.cell?, b3]
  have hF : ∀ V, Grows W V → (V.cell? ⟨w.heap.size, 1, none⟩ = some (.slice a1 f.dims.length c1) ∧ V.cell? ⟨w.heap.size + 1, 1, none⟩ = some (.slice b1 g.dims.length e1)) ∧ (V.cell? ⟨w.heap.size, 2, none⟩ = some (.slice a2 f.meas.length c2) ∧ V.cell? ⟨w.heap.size + 1, 2, none⟩ = some (.slice b2 g.meas.length e2)) := fun V hV =>
    ⟨⟨hV.cell (by simp [World.cell?, b0]), hV.cell (by simp [World.cell?, b3])⟩, ⟨hV.cell (by simp [World.cell?, b0]), hV.cell (by simp [World.cell?, b3])⟩⟩
  have HDA := Lib.hid (fun V (hV : Grows W V) j u hu => (hda j u hu).imp fun A h => And.intro h.1 ((hG.trans hV).cell h.2))
  have HDB := Lib.hid (fun V (hV : Grows W V) j u hu => (hdb j u hu).imp fun A h => And.intro h.1 ((hG.trans hV).cell h.2))
  have HMA := Lib.hid (fun V (hV : Grows W V) j u hu => (hma j u hu).imp fun A h => And.intro h.1 ((hG.trans hV).cell h.2))
  have HMB := Lib.hid (fun V (hV : Grows W V) j u hu => (hmb j u hu).imp fun A h => And.intro h.1 ((hG.trans hV).cell h.2))
  have HF := Lib.hid hF
  have HG := Lib.hid hG
  have HW := Lib.hid hW
  clear hf hg hG hda hdb hma hmb hW a0 hs b0 b3 hF
  by_cases ht : f.time < g.time
  · have hc : cmpF f g = -1 := by rw [cmpF_time] <;> simp [cmpI, ht]
    rw [hc]
    go_enter Try.func15, Try.ntmps15
    go_wp2_with fail
    rw [← HW.out]
    go_wp2_with fail
    go_ret
    exact ⟨rfl, HG.out⟩
  by_cases ht' : g.time < f.time
  · have hc : cmpF f g = 1 := by rw [cmpF_time] <;> simp [cmpI, ht, ht']
    rw [hc]
    go_enter Try.func15, Try.ntmps15
    go_wp2_with fail
    rw [← HW.out]
    go_wp2_with fail
    go_ret
    exact ⟨rfl, HG.out⟩
  have hc0 : cmpI f.time g.time = 0 := by simp [cmpI, ht, ht']
  have HC0 := Lib.hid hc0
  clear hc0
  go_enter Try.func15, Try.ntmps15
  go_wp2_with fail
  rw [← HW.out]
  have HGW := Lib.hid (Grows.refl W)
  go_loopw [5] (fun i wr => ∃ k : Nat, k ≤ f.dims.length ∧ k ≤ g.dims.length ∧ i = .int .i64 k ∧ Grows W wr ∧ cmpL cmpS f.dims g.dims = cmpL cmpS (f.dims.drop k) (g.dims.drop k)) (fun i _ => f.dims.length - (intOf i).toNat)
  case atStart => exact ⟨0, by omega, by omega, rfl, HGW.out, rfl⟩
  case round =>
    obtain ⟨k, hk, hk2, rfl, hgr, hcmp⟩ := hrel
    have HC := Lib.hid hcmp
    have HR := Lib.hid hgr
    obtain ⟨x1, y1⟩ := (HF.out wr hgr).1
    clear hcmp
    by_cases hlt : k < f.dims.length
    · by_cases hlt2 : k < g.dims.length
      · obtain ⟨x, hx⟩ : ∃ x, f.dims[k]? = some x := ⟨_, List.getElem?_eq_getElem hlt⟩
        obtain ⟨y, hy⟩ : ∃ y, g.dims[k]? = some y := ⟨_, List.getElem?_eq_getElem hlt2⟩
        obtain ⟨A, rfl, hcA⟩ := HDA.out wr hgr k (.string x) (by rw [List.getElem?_map, hx]; rfl)
        obtain ⟨B, rfl, hcB⟩ := HDB.out wr hgr k (.string y) (by rw [List.getElem?_map, hy]; rfl)
        have HX := Lib.hid hx
        have HY := Lib.hid hy
        clear hx hy hgr
        rcases u8_tri x.toList y.toList with h | h | h
        · have hb : Op.bytesLess x.toList y.toList = true := by rw [Go.Proofs.bytesLess_eq]; simpa using h
          have HQ : Hid (cmpS x y = -1) := by unfold Hid cmpS; rw [if_pos h]
          clear h
          go_wp2_with fail
          go_quiet (fail)
          go_wp2_with fail
          go_ret
          exact ⟨by rw [cmpF_dims HC0.out (by rw [HC.out, cmpL_stop _ HX.out HY.out (by rw [HQ.out]; decide), HQ.out]; decide), HC.out, cmpL_stop _ HX.out HY.out (by rw [HQ.out]; decide), HQ.out]; rfl, HG.out.trans (HR.out.trans (Grows.drewN _ _))⟩
        · have hb : Op.bytesLess x.toList y.toList = false := by rw [Go.Proofs.bytesLess_eq, h]; simp
          have hq : (x.toList == y.toList) = true := by rw [h]; exact beq_self_eq_true _
          have HQ : Hid (cmpS x y = 0) := by unfold Hid cmpS; rw [h, if_neg (List.lt_irrefl _), if_neg (List.lt_irrefl _)]
          clear h
          go_wp2_with fail
          go_quiet (fail)
          obtain ⟨V, hV⟩ : ∃ V, V = wr.drewN nq := ⟨_, rfl⟩
          have gV : Grows W V := hV ▸ HR.out.trans (Grows.drewN _ _)
          rw [← hV]
          have GV := Lib.hid gV
          obtain ⟨x2, y2⟩ := (HF.out V gV).1
          have hcA2 : V.cell? (A.add k) = some (.string x) := by rw [hV]; simpa using hcA
          have hcB2 : V.cell? (B.add k) = some (.string y) := by rw [hV]; simpa using hcB
          clear hV gV hcA hcB x1 y1
          go_wp2_with fail
          go_quiet (fail)
          go_wp2_with fail
          go_roundw
          case rel => exact ⟨k + 1, by omega, by omega, by go_num, GV.out.trans (Grows.drewN _ _), HC.out.trans (cmpL_step _ HX.out HY.out HQ.out)⟩
          case measure => simp [intOf]; omega
        · have hb : Op.bytesLess x.toList y.toList = false := by rw [Go.Proofs.bytesLess_eq]; simpa using u8_lt_asymm h
          have hq : (x.toList == y.toList) = false := by simpa using (fun e => List.lt_irrefl _ (e ▸ h) : x.toList ≠ y.toList)
          have HQ : Hid (cmpS x y = 1) := by unfold Hid cmpS; rw [if_neg (u8_lt_asymm h), if_pos h]
          clear h
          go_wp2_with fail
          go_quiet (fail)
          obtain ⟨V, hV⟩ : ∃ V, V = wr.drewN nq := ⟨_, rfl⟩
          have gV : Grows W V := hV ▸ HR.out.trans (Grows.drewN _ _)
          rw [← hV]
          have GV := Lib.hid gV
          obtain ⟨x2, y2⟩ := (HF.out V gV).1
          have hcA2 : V.cell? (A.add k) = some (.string x) := by rw [hV]; simpa using hcA
          have hcB2 : V.cell? (B.add k) = some (.string y) := by rw [hV]; simpa using hcB
          clear hV gV hcA hcB x1 y1
          go_wp2_with fail
          go_quiet (fail)
          go_wp2_with fail
          go_ret
          exact ⟨by rw [cmpF_dims HC0.out (by rw [HC.out, cmpL_stop _ HX.out HY.out (by rw [HQ.out]; decide), HQ.out]; decide), HC.out, cmpL_stop _ HX.out HY.out (by rw [HQ.out]; decide), HQ.out]; rfl, HG.out.trans (GV.out.trans (Grows.drewN _ _))⟩
      · have hge : (g.dims.length : Int) ≤ (k : Int) := by omega
        clear hgr
        go_wp2_with fail
        go_ret
        exact ⟨by rw [cmpF_dims HC0.out (by rw [HC.out, cmpL_long _ hlt (by omega)]; decide), HC.out, cmpL_long _ hlt (by omega)]; rfl, HG.out.trans HR.out⟩
    · by_cases hlt2 : k < g.dims.length
      · have hge : (f.dims.length : Int) ≤ (k : Int) := by omega
        have hnl : ¬ (k : Int) < (f.dims.length : Int) := by omega
        clear hgr
        go_wp2_with fail
        go_ret
        exact ⟨by rw [cmpF_dims HC0.out (by rw [HC.out, cmpL_short _ (by omega) hlt2]; decide), HC.out, cmpL_short _ (by omega) hlt2]; rfl, HG.out.trans HR.out⟩
      · have hz : cmpL cmpS f.dims g.dims = 0 := HC.out.trans (cmpL_both _ (by omega) (by omega))
        have HZ5 := Lib.hid hz
        have hnl : ¬ (k : Int) < (f.dims.length : Int) := by omega
        have hnl2 : ¬ (k : Int) < (g.dims.length : Int) := by omega
        clear hgr hz
        go_wp2_with fail
        have R1 := Lib.hid HR.out
        clear HC x1 y1 HR
        go_loopw [6] (fun i wr => ∃ k : Nat, k ≤ f.meas.length ∧ k ≤ g.meas.length ∧ i = .int .i64 k ∧ Grows W wr ∧ cmpL cmpI f.meas g.meas = cmpL cmpI (f.meas.drop k) (g.meas.drop k)) (fun i _ => f.meas.length - (intOf i).toNat)
        case atStart => exact ⟨0, by omega, by omega, rfl, R1.out, rfl⟩
        case round =>
          obtain ⟨k, hk, hk2, rfl, hgr, hcmp⟩ := hrel
          have HC := Lib.hid hcmp
          have HR := Lib.hid hgr
          obtain ⟨x1, y1⟩ := (HF.out wr hgr).2
          clear hcmp
          by_cases hlt : k < f.meas.length
          · by_cases hlt2 : k < g.meas.length
            · obtain ⟨x, hx⟩ : ∃ x, f.meas[k]? = some x := ⟨_, List.getElem?_eq_getElem hlt⟩
              obtain ⟨y, hy⟩ : ∃ y, g.meas[k]? = some y := ⟨_, List.getElem?_eq_getElem hlt2⟩
              obtain ⟨A, rfl, hcA⟩ := HMA.out wr hgr k (.int .i64 x) (by rw [List.getElem?_map, hx]; rfl)
              obtain ⟨B, rfl, hcB⟩ := HMB.out wr hgr k (.int .i64 y) (by rw [List.getElem?_map, hy]; rfl)
              have HX := Lib.hid hx
              have HY := Lib.hid hy
              clear hx hy hgr
              rcases Int.lt_trichotomy x y with h | h | h
              · have HQ : Hid (cmpI x y = -1) := by unfold Hid cmpI; rw [if_pos h]
                go_wp2_with fail
                go_quiet (fail)
                go_wp2_with fail
                go_ret
                exact ⟨by rw [cmpF_meas HC0.out HZ5.out, HC.out, cmpL_stop _ HX.out HY.out (by rw [HQ.out]; decide), HQ.out]; rfl, HG.out.trans (HR.out.trans (Grows.drewN _ _))⟩
              · have hb : ¬ x < y := by omega
                have hq : ¬ y < x := by omega
                have HQ : Hid (cmpI x y = 0) := by unfold Hid cmpI; rw [if_neg hb, if_neg hq]
                clear h
                go_wp2_with fail
                go_quiet (fail)
                obtain ⟨V, hV⟩ : ∃ V, V = wr.drewN nq := ⟨_, rfl⟩
                have gV : Grows W V := hV ▸ HR.out.trans (Grows.drewN _ _)
                rw [← hV]
                have GV := Lib.hid gV
                obtain ⟨x2, y2⟩ := (HF.out V gV).2
                have hcA2 : V.cell? (A.add k) = some (.int .i64 x) := by rw [hV]; simpa using hcA
                have hcB2 : V.cell? (B.add k) = some (.int .i64 y) := by rw [hV]; simpa using hcB
                clear hV gV hcA hcB x1 y1
                go_wp2_with fail
                go_quiet (fail)
                go_wp2_with fail
                go_roundw
                case rel => exact ⟨k + 1, by omega, by omega, by go_num, GV.out.trans (Grows.drewN _ _), HC.out.trans (cmpL_step _ HX.out HY.out HQ.out)⟩
                case measure => simp [intOf]; omega
              · have hb : ¬ x < y := by omega
                have HQ : Hid (cmpI x y = 1) := by unfold Hid cmpI; rw [if_neg hb, if_pos h]
                go_wp2_with fail
                go_quiet (fail)
                obtain ⟨V, hV⟩ : ∃ V, V = wr.drewN nq := ⟨_, rfl⟩
                have gV : Grows W V := hV ▸ HR.out.trans (Grows.drewN _ _)
                rw [← hV]
                have GV := Lib.hid gV
                obtain ⟨x2, y2⟩ := (HF.out V gV).2
                have hcA2 : V.cell? (A.add k) = some (.int .i64 x) := by rw [hV]; simpa using hcA
                have hcB2 : V.cell? (B.add k) = some (.int .i64 y) := by rw [hV]; simpa using hcB
                clear hV gV hcA hcB x1 y1
                go_wp2_with fail
                go_quiet (fail)
                go_wp2_with fail
                go_ret
                exact ⟨by rw [cmpF_meas HC0.out HZ5.out, HC.out, cmpL_stop _ HX.out HY.out (by rw [HQ.out]; decide), HQ.out]; rfl, HG.out.trans (GV.out.trans (Grows.drewN _ _))⟩
            · have hge : (g.meas.length : Int) ≤ (k : Int) := by omega
              clear hgr
              go_wp2_with fail
              go_ret
              exact ⟨by rw [cmpF_meas HC0.out HZ5.out, HC.out, cmpL_long _ hlt (by omega)]; rfl, HG.out.trans HR.out⟩
          · by_cases hlt2 : k < g.meas.length
            · have hge : (f.meas.length : Int) ≤ (k : Int) := by omega
              have hnl : ¬ (k : Int) < (f.meas.length : Int) := by omega
              clear hgr
              go_wp2_with fail
              go_ret
              exact ⟨by rw [cmpF_meas HC0.out HZ5.out, HC.out, cmpL_short _ (by omega) hlt2]; rfl, HG.out.trans HR.out⟩
            · have hz : cmpL cmpI f.meas g.meas = 0 := HC.out.trans (cmpL_both _ (by omega) (by omega))
              have HZ6 := Lib.hid hz
              have hnl : ¬ (k : Int) < (f.meas.length : Int) := by omega
              have hnl2 : ¬ (k : Int) < (g.meas.length : Int) := by omega
              clear hgr hz
              go_wp2_with fail
              go_ret
              exact ⟨by rw [cmpF_meas HC0.out HZ5.out, HZ6.out]; rfl, HG.out.trans HR.out⟩

end Go.Proofs.Ytcbgnikbaepkaaa
