/- FactOrders, walked. -/
import Derived.Test.YtcbgnikbaepkaaaSe
import Derived.Test.YtcbgnikbaepkaaaCk
namespace Go.Proofs.Ytcbgnikbaepkaaa
open Go.Shelf Go.RowKit Go.Lib Go.Sort Go.Proofs

theorem cmpF_vals (f g : Fa) : cmpF f g = -1 ∨ cmpF f g = 0 ∨ cmpF f g = 1 := by
  have hI : ∀ a b, cmpI a b = -1 ∨ cmpI a b = 0 ∨ cmpI a b = 1 := fun a b => by unfold cmpI; split <;> (try split) <;> simp
  have hS : ∀ a b, cmpS a b = -1 ∨ cmpS a b = 0 ∨ cmpS a b = 1 := fun a b => by unfold cmpS; split <;> (try split) <;> simp
  have hL : ∀ {α : Type} (c : α → α → Int), (∀ a b, c a b = -1 ∨ c a b = 0 ∨ c a b = 1) → ∀ x y, cmpL c x y = -1 ∨ cmpL c x y = 0 ∨ cmpL c x y = 1 := by
    intro α c hc x
    induction x with
    | nil => intro y; cases y <;> simp [cmpL]
    | cons a l ih =>
      intro y
      cases y with
      | nil => simp [cmpL]
      | cons b r =>
        unfold cmpL
        split
        · exact hc a b
        · exact ih r
  unfold cmpF firstOf firstOf firstOf firstOf
  split
  · exact hI _ _
  · split
    · exact hL _ hS _ _
    · split
      · exact hL _ hI _ _
      · exact .inr (.inl rfl)

/-- The bag of facts, any number of them. -/
theorem factBag_any (v : Value) (l : List Ro) (w : World) (h : FactsAt w v l) : Calls Try.prog 16 #[v] w (BagIs w (l.map fun x => (x.f, 1))) :=
  factBag_is v l w h fun w0 wr g c rows h1 h2 h3 h4 => sort_all l.length (Nat.lt_of_lt_of_le h.len (by decide)) w0 wr g c rows h1 h2 h3 h4

theorem fit_ones (l : List Ro) : Fit (l.map fun x => (x.f, 1)) := fun p hp => by
  obtain ⟨x, _, rfl⟩ := List.mem_map.1 hp
  rfl

theorem sum_ones (l : List Ro) : sumN (l.map fun x => (x.f, 1)) = l.length := by
  induction l with
  | nil => rfl
  | cons x l ih => simp only [List.map_cons, sumN, ih, List.length_cons]; omega

theorem mergeP_length (l : Ps) : (mergeP l).length ≤ l.length := by
  have key : ∀ (l acc : Ps), (l.foldl mergeStep acc).length ≤ acc.length + l.length := by
    intro l
    induction l with
    | nil => intro acc; simp
    | cons x l ih =>
      intro acc
      have h1 : (mergeStep acc x).length ≤ acc.length + 1 := by
        unfold mergeStep
        split
        · split
          · simp only [List.length_append, List.length_dropLast, List.length_cons, List.length_nil]; omega
          · simp
        · simp
      have := ih (mergeStep acc x)
      simp only [List.foldl_cons, List.length_cons]
      omega
  have := key l []
  simpa [mergeP] using this

theorem BagP.length {ps r : Ps} (h : BagP ps r) : r.length ≤ ps.length := by
  obtain ⟨s, hp, _, rfl⟩ := h
  exact Nat.le_trans (List.length_filter_le _ _) (Nat.le_trans (mergeP_length s) (Nat.le_of_eq hp.length_eq))

/-- What Bag answers, for FactOrders. -/
theorem orders_bag (v : Value) (l : List Ro) (w : World) (h : FactsAt w v l) : Calls Try.prog 16 #[v] w fun e w' => ∃ a n c l', e = .returned (.slice a n c) ∧ (n = l'.length ∧ (OwnRows w' w.heap.size (.slice a n c) l' ∧ (∀ x ∈ l', x.ok w') ∧ l'.length < 2199023255552) ∧ Rise (l'.map Ro.p) ∧ wu (sumN (l'.map Ro.p)) = l.length) ∧ Kept w w' := by
  refine (factBag_any v l w h).mono ?_
  rintro e w' ⟨v', l', rfl, ho, hb, hok, hk⟩
  obtain ⟨i1, i2, i3, i4, i5⟩ := hb.inv (fit_ones l)
  obtain ⟨a, c, rfl⟩ := ho.slice
  have hlen : l'.length < 2199023255552 := by
    have h1 := hb.length
    have h2 := h.len
    simp only [List.length_map] at h1
    omega
  refine ⟨a, _, c, l', rfl, ⟨rfl, ⟨ho, fun x hx => (hok x hx).1.1, hlen⟩, i1, ?_⟩, hk⟩
  rw [i5, sum_ones, wu_eq]
  have := h.len
  omega

theorem trans_ok {x y z : Int} {f g h : Fa} (hx : x = cmpF f g) (hy : y = cmpF g h) (hz : z = cmpF f h) : (x ≤ 0 → y ≤ 0 → z ≤ 0) ∧ (0 ≤ x → 0 ≤ y → 0 ≤ z) ∧ (x < 0 → y < 0 → z < 0) := by
  subst hx hy hz
  refine ⟨fun a b => cmpF_le_trans a b, fun a b => ?_, fun a b => isCmp_F.trans _ _ _ a b⟩
  have h1 := cmpF_anti f g
  have h2 := cmpF_anti g h
  have h3 := cmpF_anti f h
  have := cmpF_le_trans (a := h) (b := g) (c := f) (by omega) (by omega)
  omega

set_option maxHeartbeats 16000000 in
set_option maxRecDepth 100000 in
theorem orders_is (x y z : Ro) (l : List Ro) (a : Option Addr) (len c : Nat) (w : World) (hx : x.ok w) (hy : y.ok w) (hz : z.ok w) (hl : FactsAt w (.slice a len c) l) (hlen : len = l.length) :
    Calls Try.prog 4 #[.agg #[.int .i64 x.f.time, x.d, x.m], .agg #[.int .i64 y.f.time, y.d, y.m], .agg #[.int .i64 z.f.time, z.d, z.m], .slice a len c] w fun e w' => e = .returned (.bool true) ∧ Kept w w' := by
  have mixed : Try.prog.follows .mixedOrders = true := by kernel_rfl
  obtain ⟨W, hW⟩ : ∃ W, W = ((w.alloc (.cells #[.int .i64 x.f.time, x.d, x.m] 27)).alloc (.cells #[.int .i64 y.f.time, y.d, y.m] 27)).alloc (.cells #[.int .i64 z.f.time, z.d, z.m] 27) := ⟨_, rfl⟩
  have kW : Kept w W := by rw [hW]; exact (((Grows.alloc _ _).trans (Grows.alloc _ _)).trans (Grows.alloc _ _)).kept
  have blocks : W.heap[w.heap.size]? = some (.cells #[.int .i64 x.f.time, x.d, x.m] 27 (0, 0)) ∧ W.heap[w.heap.size + 1]? = some (.cells #[.int .i64 y.f.time, y.d, y.m] 27 (0, 0)) ∧ W.heap[w.heap.size + 1 + 1]? = some (.cells #[.int .i64 z.f.time, z.d, z.m] 27 (0, 0)) := by
    rw [hW]; exact three_blocks w _ _ _ _ _ _
  have HX := Lib.hid hx
  have HY := Lib.hid hy
  have HZ := Lib.hid hz
  have HL := Lib.hid hl
  have HLEN := Lib.hid hlen
  have hlb := hl.len
  have hlb2 : len < 2199023255552 := by omega
  have HW := Lib.hid hW
  have KW := Lib.hid kW
  have BL := Lib.hid blocks
  clear hx hy hz hl hlen hlb hW kW blocks
  go_enter Try.func4, Try.ntmps4
  go_wp2_with fail
  rw [← HW.out]
  refine (awake_is W).mono ?_
  rintro e w1 ⟨rfl, hk1⟩
  have K1 := Lib.hid (KW.out.trans hk1)
  have b1 : w1.heap[w.heap.size]? = _ := (hk1.block _ (Array.getElem?_eq_some_iff.1 BL.out.1).1).trans BL.out.1
  have b2 : w1.heap[w.heap.size + 1]? = _ := (hk1.block _ (Array.getElem?_eq_some_iff.1 BL.out.2.1).1).trans BL.out.2.1
  have b3 : w1.heap[w.heap.size + 1 + 1]? = _ := (hk1.block _ (Array.getElem?_eq_some_iff.1 BL.out.2.2).1).trans BL.out.2.2
  have x0 : w1.cell? ⟨w.heap.size, 0, none⟩ = some (.int .i64 x.f.time) := by simp only [World.cell?, b1]; rfl
  have x1 : w1.cell? ⟨w.heap.size, 1, none⟩ = some x.d := by simp only [World.cell?, b1]; rfl
  have x2 : w1.cell? ⟨w.heap.size, 2, none⟩ = some x.m := by simp only [World.cell?, b1]; rfl
  have y0 : w1.cell? ⟨w.heap.size + 1, 0, none⟩ = some (.int .i64 y.f.time) := by simp only [World.cell?, b2]; rfl
  have y1 : w1.cell? ⟨w.heap.size + 1, 1, none⟩ = some y.d := by simp only [World.cell?, b2]; rfl
  have y2 : w1.cell? ⟨w.heap.size + 1, 2, none⟩ = some y.m := by simp only [World.cell?, b2]; rfl
  have z0 : w1.cell? ⟨w.heap.size + 1 + 1, 0, none⟩ = some (.int .i64 z.f.time) := by simp only [World.cell?, b3]; rfl
  have z1 : w1.cell? ⟨w.heap.size + 1 + 1, 1, none⟩ = some z.d := by simp only [World.cell?, b3]; rfl
  have z2 : w1.cell? ⟨w.heap.size + 1 + 1, 2, none⟩ = some z.m := by simp only [World.cell?, b3]; rfl
  obtain ⟨X, hX⟩ : ∃ X, X = cmpF x.f y.f := ⟨_, rfl⟩
  obtain ⟨Y, hY⟩ : ∃ Y, Y = cmpF y.f z.f := ⟨_, rfl⟩
  obtain ⟨Z, hZ⟩ : ∃ Z, Z = cmpF x.f z.f := ⟨_, rfl⟩
  have hX2 : cmpF y.f x.f = -X := by rw [hX]; exact cmpF_anti x.f y.f
  have vX := cmpF_vals x.f y.f
  have vY := cmpF_vals y.f z.f
  have vZ := cmpF_vals x.f z.f
  obtain ⟨o1, o2, o3⟩ := trans_ok hX hY hZ
  rw [← hX] at vX
  rw [← hY] at vY
  rw [← hZ] at vZ
  have HXV := Lib.hid hX
  have HYV := Lib.hid hY
  have HZV := Lib.hid hZ
  have HX2 := Lib.hid hX2
  clear b1 b2 b3 hk1 hX hY hZ hX2
  go_wp2_with fail
  refine (compare_is x.f y.f x.d x.m y.d y.m w1 (FaAt.kept HX.out K1.out) (FaAt.kept HY.out K1.out)).mono ?_
  rintro e w2 ⟨rfl, hg2⟩
  rw [← HXV.out]
  have K2 := Lib.hid (K1.out.trans hg2.kept)
  have x0' := hg2.cell x0
  have x1' := hg2.cell x1
  have x2' := hg2.cell x2
  have y0' := hg2.cell y0
  have y1' := hg2.cell y1
  have y2' := hg2.cell y2
  have z0' := hg2.cell z0
  have z1' := hg2.cell z1
  have z2' := hg2.cell z2
  clear x0 x1 x2 y0 y1 y2 z0 z1 z2 hg2
  have VX := Lib.hid vX
  have VY := Lib.hid vY
  have VZ := Lib.hid vZ
  have O := Lib.hid (And.intro o1 (And.intro o2 o3))
  clear vX vY vZ o1 o2 o3
  go_wp2_with fail
  refine (compare_is y.f z.f y.d y.m z.d z.m w2 (FaAt.kept HY.out K2.out) (FaAt.kept HZ.out K2.out)).mono ?_
  rintro e w3 ⟨rfl, hg2⟩
  rw [← HYV.out]
  have K3 := Lib.hid (K2.out.trans hg2.kept)
  have x0 := hg2.cell x0'
  have x1 := hg2.cell x1'
  have x2 := hg2.cell x2'
  have y0 := hg2.cell y0'
  have y1 := hg2.cell y1'
  have y2 := hg2.cell y2'
  have z0 := hg2.cell z0'
  have z1 := hg2.cell z1'
  have z2 := hg2.cell z2'
  clear x0' x1' x2' y0' y1' y2' z0' z1' z2' hg2
  go_wp2_with fail
  refine (compare_is x.f z.f x.d x.m z.d z.m w3 (FaAt.kept HX.out K3.out) (FaAt.kept HZ.out K3.out)).mono ?_
  rintro e w4 ⟨rfl, hg2⟩
  rw [← HZV.out]
  have K4 := Lib.hid (K3.out.trans hg2.kept)
  have x0' := hg2.cell x0
  have x1' := hg2.cell x1
  have x2' := hg2.cell x2
  have y0' := hg2.cell y0
  have y1' := hg2.cell y1
  have y2' := hg2.cell y2
  clear x0 x1 x2 y0 y1 y2 z0 z1 z2 hg2
  go_wp2_with fail
  refine (compare_is y.f x.f y.d y.m x.d x.m w4 (FaAt.kept HY.out K4.out) (FaAt.kept HX.out K4.out)).mono ?_
  rintro e w5 ⟨rfl, hg2⟩
  rw [HX2.out]
  have K5 := Lib.hid (K4.out.trans hg2.kept)
  clear x0' x1' x2' y0' y1' y2' hg2
  have hbag := orders_bag _ l w5 ⟨HL.out.slice, fun a' n' c' hv i hi => by
    obtain ⟨A, ha, h0, h1, h2⟩ := HL.out.cells a' n' c' hv i hi
    exact ⟨A, ha, K5.out.cell h0, K5.out.cell h1, K5.out.cell h2⟩, fun x hx => FaAt.kept (HL.out.ok x hx) K5.out, HL.out.len⟩
  have HBAG := Lib.hid hbag
  clear hbag HXV HYV HZV HX2
  have vX := VX.out
  have vY := VY.out
  have vZ := VZ.out
  obtain ⟨o1, o2, o3⟩ := O.out
  rcases vX with rfl | rfl | rfl <;> rcases vY with rfl | rfl | rfl <;> rcases vZ with rfl | rfl | rfl
  all_goals try (exfalso; omega)
  all_goals clear o1 o2 o3 VX VY VZ O
  all_goals go_wp2_with fail
  all_goals
    refine HBAG.out.mono ?_
    rintro e w6 ⟨a6, n6, c6, l6, rfl, ⟨hn6, ⟨ho6, hok6, hl6⟩, hrise, hsum⟩, hk6⟩
    have hnb : n6 < 2199023255552 := by omega
    have N6 := Lib.hid hn6
    have O6 := Lib.hid ho6
    have OK6 := Lib.hid hok6
    have RI := Lib.hid hrise
    have SU := Lib.hid hsum
    have K6 := Lib.hid (K5.out.trans hk6)
    clear hn6 ho6 hok6 hl6 hrise hsum hk6 HBAG
    go_wp2_with fail
    go_loopw [14] (fun vi wr => ∃ i : Nat, vi = .int .i64 i ∧ 1 ≤ i ∧ i ≤ n6 + 1 ∧ Hid (Grows w6 wr)) (fun vi _ => n6 + 1 - (intOf vi).toNat)
    case atStart => exact ⟨1, rfl, by omega, by omega, Grows.refl _⟩
    case round =>
      obtain ⟨i, rfl, hi1, hi2, HG⟩ := hrel
      by_cases hlt : i < n6
      · obtain ⟨j, rfl⟩ : ∃ j, i = j + 1 := ⟨i - 1, by omega⟩
        obtain ⟨g, rfl⟩ : ∃ g, a6 = some ⟨g, 0, none⟩ := by
          rcases O6.out.2 with ⟨he, hn⟩ | ⟨g, cap, cur, he, _⟩
          · cases he; omega
          · cases he; exact ⟨g, rfl⟩
        have hj1 : j < l6.length := by have := N6.out; omega
        have hj2 : j + 1 < l6.length := by have := N6.out; omega
        obtain ⟨u, hu⟩ : ∃ u, l6[j]? = some u := ⟨_, List.getElem?_eq_getElem hj1⟩
        obtain ⟨v, hv⟩ : ∃ v, l6[j + 1]? = some v := ⟨_, List.getElem?_eq_getElem hj2⟩
        have hcmp : cmpF u.f v.f < 0 := by
          obtain ⟨_, rfl⟩ := List.getElem?_eq_some_iff.1 hu
          obtain ⟨_, rfl⟩ := List.getElem?_eq_some_iff.1 hv
          have := (List.pairwise_iff_getElem.1 RI.out) j (j + 1) (by simpa using hj1) (by simpa using hj2) (Nat.lt_succ_self _)
          simpa [Ro.p] using this
        have hoR : ∀ n os, OwnRows (grow (wr.drewN n) os) w5.heap.size (.slice (some ⟨g, 0, none⟩) n6 c6) l6 := fun n os => (O6.out.grows HG.out).grows ⟨n, os, rfl⟩
        have u0 := fun n os => ((hoR n os).cells hu).1.1
        have u1 := fun n os => ((hoR n os).cells hu).1.2.1
        have u2 := fun n os => ((hoR n os).cells hu).1.2.2.1
        have v0 := fun n os => ((hoR n os).cells hv).1.1
        have v1 := fun n os => ((hoR n os).cells hv).1.2.1
        have v2 := fun n os => ((hoR n os).cells hv).1.2.2.1
        have hc : ∀ n os, Calls Try.prog 14 #[.agg #[.int .i64 u.f.time, .slice u.da u.dn u.dc, .slice u.ma u.mn u.mc], .agg #[.int .i64 v.f.time, .slice v.da v.dn v.dc, .slice v.ma v.mn v.mc]] (grow (wr.drewN n) os) fun e w' => e = .returned (.int .i64 (cmpF u.f v.f)) ∧ ∃ q os', w' = grow ((grow (wr.drewN n) os).drewN q) os' := fun n os =>
          compare_is u.f v.f _ _ _ _ _ ((FaAt.grows (OK6.out u (List.mem_of_getElem? hu)) HG.out).grows ⟨n, os, rfl⟩) ((FaAt.grows (OK6.out v (List.mem_of_getElem? hv)) HG.out).grows ⟨n, os, rfl⟩)
        have q0 : IntKind.i64.wrap (j : Int) = (j : Int) := by rw [IntKind.wrap_i64]; omega
        have q1 : (j : Int) < (n6 : Int) := by omega
        have q2 : (j : Int) + 1 < (n6 : Int) := by omega
        have q3 : ((j : Int) + 1).toNat = j + 1 := by omega
        have q6 : (0 : Int) ≤ (j : Int) + 1 := by omega
        have q7 : IntKind.i64.wrap ((j : Int) + 1) = (j : Int) + 1 := by rw [IntKind.wrap_i64]; omega
        have q4 : ¬ (0 ≤ cmpF u.f v.f) := by omega
        have q5 : decide (0 ≤ cmpF u.f v.f) = false := decide_eq_false q4
        clear hu hv hcmp hoR hj1 hj2
        go_wp2_with fail
        go_quiet_grown ((go_at_call 14; refine Calls.grown_of (hc _ _)))
        change Exit.then _ _ _ _ (grow (wr.drewN nq) osq)
        have HG2 := Lib.hid (show Grows w6 (grow (wr.drewN nq) osq) from HG.out.trans ⟨nq, osq, rfl⟩)
        generalize grow (wr.drewN nq) osq = w7 at HG2 ⊢
        clear u0 u1 u2 v0 v1 v2 hc
        go_wp2_with fail
        go_roundw
        case rel => exact ⟨j + 1 + 1, by go_num, by omega, by omega, HG2⟩
        case measure => simp [intOf]; omega
      · have hge : ¬ (i : Int) < (n6 : Int) := by omega
        have hcnt := count_is (.slice a6 n6 c6) l6 wr ((O6.out.grows HG.out).rowsAt (fun x hx => FaAt.grows (OK6.out x hx) HG.out) (by have := N6.out; omega))
        rw [SU.out, ← HLEN.out] at hcnt
        have HCNT := Lib.hid hcnt
        clear hcnt
        go_wp2_with fail
        refine HCNT.out.mono ?_
        rintro e w7 ⟨rfl, hg7⟩
        have G7 := Lib.hid hg7
        clear hg7
        go_wp2_with fail
        go_ret
        exact ⟨rfl, K6.out.trans (HG.out.trans G7.out).kept⟩

end Go.Proofs.Ytcbgnikbaepkaaa
