/- FactLaws, walked. -/
import Derived.Test.YtcbgnikbaepkaaaBs
import Derived.Deep.RegionHeld3
namespace Go.Proofs.Ytcbgnikbaepkaaa
open Go.Shelf Go.RowKit Go.Lib Go.Sort Go.Proofs

theorem same_turned (a b : Ps) (ha : Fit a) (hb : Fit b) : eqP (ownP (ownP (a ++ b))) (ownP (ownP (b ++ a))) = true := by
  rw [own_own _ (fit_append ha hb), own_own _ (fit_append hb ha), eqP_iff]
  exact own_congr (fit_append ha hb) (fit_append hb ha) fun f => by rw [cnt_append, cnt_append, Int.add_comm]

theorem own_join_left (a b : Ps) (ha : Fit a) (hb : Fit b) : ownP (ownP a ++ b) = ownP (a ++ b) := by
  obtain ⟨_, a2, _, a4, _⟩ := ownP_inv a ha
  exact own_congr (fit_append a2 hb) (fit_append ha hb) fun f => by rw [cnt_append, cnt_append, ← wu_l, a4, wu_l]

theorem own_join_right (a b : Ps) (ha : Fit a) (hb : Fit b) : ownP (a ++ ownP b) = ownP (a ++ b) := by
  obtain ⟨_, a2, _, a4, _⟩ := ownP_inv b hb
  exact own_congr (fit_append ha a2) (fit_append ha hb) fun f => by rw [cnt_append, cnt_append, ← wu_r, a4, wu_r]

theorem own_fit {a : Ps} (h : Fit a) : Fit (ownP a) := (ownP_inv a h).2.1

theorem same_grouped (a b c : Ps) (ha : Fit a) (hb : Fit b) (hc : Fit c) : eqP (ownP (ownP (ownP (a ++ b) ++ c))) (ownP (ownP (a ++ ownP (b ++ c)))) = true := by
  have hab := fit_append ha hb
  have hbc := fit_append hb hc
  rw [own_own _ (fit_append (own_fit hab) hc), own_own _ (fit_append ha (own_fit hbc)), own_join_left _ _ hab hc, own_join_right _ _ ha hbc, List.append_assoc]
  exact eqP_self _

theorem same_apart (t : Fa → Bool) (a : Ps) (ha : Fit a) : eqP (ownP (ownP (ownP (a.filter fun q => t q.1) ++ ownP (a.filter fun q => !t q.1)))) (ownP a) = true := by
  have h1 : Fit (a.filter fun q => t q.1) := fit_filter ha _
  have h2 : Fit (a.filter fun q => !t q.1) := fit_filter ha _
  rw [own_own _ (fit_append (own_fit h1) (own_fit h2)), own_join_left _ _ h1 (own_fit h2), own_join_right _ _ h1 h2, eqP_iff]
  refine own_congr (fit_append h1 h2) ha fun f => ?_
  rw [cnt_append, cnt_filter, cnt_filter (fun f => !t f)]
  cases t f <;> simp

theorem count_join (a b : Ps) (ha : Fit a) (hb : Fit b) : wu (sumN (ownP (a ++ b))) = wu (wu (sumN a) + wu (sumN b)) := by
  rw [(ownP_inv _ (fit_append ha hb)).2.2.2.2, sumN_append, wu_l, wu_r]

theorem lens_few {l1 l2 : List Ro} {p1 p2 : Ps} (h1 : l1.map Ro.p = ownP p1) (h2 : l2.map Ro.p = ownP p2) (m1 : p1.length ≤ 200) (m2 : p2.length ≤ 200) : l1.length + l2.length < 2199023255552 := by
  have e1 := congrArg List.length h1
  have e2 := congrArg List.length h2
  rw [List.length_map] at e1 e2
  have := ownP_length p1
  have := ownP_length p2
  omega

theorem own_few {p1 p2 : Ps} (m1 : p1.length ≤ 200) (m2 : p2.length ≤ 200) : (ownP p1 ++ ownP p2).length < 2199023255552 := by
  rw [List.length_append]
  have := ownP_length p1
  have := ownP_length p2
  omega

set_option maxHeartbeats 16000000 in
set_option maxRecDepth 100000 in
theorem laws_few (a0 a1 a2 : Option Addr) (n0 n1 n2 c0 c1 c2 : Nat) (l0 l1 l2 : List Ro) (fr to : Int) (w : World) (h0 : RowsIn w a0 n0 c0 l0) (f0 : Fit (l0.map Ro.p)) (h1 : RowsIn w a1 n1 c1 l1) (f1 : Fit (l1.map Ro.p)) (h2 : RowsIn w a2 n2 c2 l2) (f2 : Fit (l2.map Ro.p))
    (b0 : n0 ≤ 200) (b1 : n1 ≤ 200) (b2 : n2 ≤ 200) :
    Calls Try.prog 8 #[.slice a0 n0 c0, .slice a1 n1 c1, .slice a2 n2 c2, .agg #[.int .i64 fr, .int .i64 to]] w fun e w' => e = .returned (.bool true) ∧ Kept w w' := by
  obtain ⟨W, hW⟩ : ∃ W, W = w.alloc (.cells #[.int .i64 fr, .int .i64 to] 44) := ⟨_, rfl⟩
  have gW : Grows w W := by rw [hW]; exact Grows.alloc _ _
  have bW : W.heap[w.heap.size]? = some (.cells #[.int .i64 fr, .int .i64 to] 44 (0, 0)) := by rw [hW]; exact (MapKept.heap_alloc _ _).1
  have m0 := h0.len
  have m1 := h1.len
  have m2 := h2.len
  have k0 : l0.length ≤ 200 := by omega
  have k1 : l1.length ≤ 200 := by omega
  have k2 : l2.length ≤ 200 := by omega
  have H0 := Lib.hid (h0.kept gW.kept)
  have H1 := Lib.hid (h1.kept gW.kept)
  have H2 := Lib.hid (h2.kept gW.kept)
  have F0 := Lib.hid f0
  have F1 := Lib.hid f1
  have F2 := Lib.hid f2
  have q0 : ¬ (200 : Int) < (n0 : Int) := by omega
  have q1 : ¬ (200 : Int) < (n1 : Int) := by omega
  have q2 : ¬ (200 : Int) < (n2 : Int) := by omega
  have L0 := Lib.hid (p_len l0)
  have L1 := Lib.hid (p_len l1)
  have L2 := Lib.hid (p_len l2)
  have HW := Lib.hid hW
  have GW := Lib.hid gW
  have BW := Lib.hid bW
  clear h0 h1 h2 f0 f1 f2 m0 m1 m2 hW gW bW
  go_enter Try.func8, Try.ntmps8
  go_wp2_with fail
  rw [← HW.out]
  refine (awake_is W).mono ?_
  rintro e w1 ⟨rfl, hk1⟩
  have K1 := Lib.hid hk1
  clear hk1
  go_wp2_with fail
  -- turned
  refine (join_is a0 a1 n0 n1 c0 c1 l0 l1 w1 (H0.out.kept K1.out) (H1.out.kept K1.out) F0.out F1.out (by omega)).mono ?_
  rintro e w2 ⟨a3, n3, c3, l3, rfl, h3, hk2⟩
  have K2 := Lib.hid (K1.out.trans hk2)
  have H3 := Lib.hid h3
  clear h3 hk2
  go_wp2_with fail
  refine (join_is a1 a0 n1 n0 c1 c0 l1 l0 w2 (H1.out.kept K2.out) (H0.out.kept K2.out) F1.out F0.out (by omega)).mono ?_
  rintro e w3 ⟨a4, n4, c4, l4, rfl, h4, hk3⟩
  have K23 := Lib.hid hk3
  have K3 := Lib.hid (K2.out.trans hk3)
  have H4 := Lib.hid h4
  clear h4 hk3
  go_wp2_with fail
  have R3 := (bagR_rows H3.out (by rw [List.length_append, L0.out, L1.out]; omega)).kept K23.out
  have R4 := bagR_rows H4.out (by rw [List.length_append, L0.out, L1.out]; omega)
  have hs1 := same_is a3 a4 n3 n4 c3 c4 l3 l4 w3 R3 R4 (fit_own H3.out.2.2.1 (fit_append F0.out F1.out)) (fit_own H4.out.2.2.1 (fit_append F1.out F0.out))
  rw [H3.out.2.2.1, H4.out.2.2.1, same_turned _ _ F0.out F1.out] at hs1
  refine hs1.mono ?_
  rintro e w4 ⟨rfl, hk4⟩
  have K4 := Lib.hid (K3.out.trans hk4)
  clear hs1 hk4 R3 R4 H3 H4 K2 K23 K3
  go_wp2_with fail
  -- grouped
  refine (join_is a0 a1 n0 n1 c0 c1 l0 l1 w4 (H0.out.kept K4.out) (H1.out.kept K4.out) F0.out F1.out (by omega)).mono ?_
  rintro e w5 ⟨a5, n5, c5, l5, rfl, h5, hk5⟩
  have K5 := Lib.hid (K4.out.trans hk5)
  have H5 := Lib.hid h5
  clear h5 hk5
  go_wp2_with fail
  have R5 := bagR_rows H5.out (by rw [List.length_append, L0.out, L1.out]; omega)
  have N5 : l5.length ≤ 400 := by
    have h1 := congrArg List.length H5.out.2.2.1
    have h2 := ownP_length (l0.map Ro.p ++ l1.map Ro.p)
    rw [List.length_append, L0.out, L1.out] at h2
    rw [List.length_map] at h1
    omega
  refine (join_is a5 a2 n5 n2 c5 c2 l5 l2 w5 R5 (H2.out.kept K5.out) (fit_own H5.out.2.2.1 (fit_append F0.out F1.out)) F2.out (by omega)).mono ?_
  rintro e w6 ⟨a6, n6, c6, l6, rfl, h6, hk6⟩
  rw [H5.out.2.2.1] at h6
  have K6 := Lib.hid (K5.out.trans hk6)
  have H6 := Lib.hid h6
  have P5 := Lib.hid (own_fit (fit_append F0.out F1.out))
  have N5' := Lib.hid (show (ownP (l0.map Ro.p ++ l1.map Ro.p)).length ≤ 400 by rw [← H5.out.2.2.1, List.length_map]; exact N5)
  clear h6 hk6 R5 N5 H5
  go_wp2_with fail
  refine (join_is a1 a2 n1 n2 c1 c2 l1 l2 w6 (H1.out.kept K6.out) (H2.out.kept K6.out) F1.out F2.out (by omega)).mono ?_
  rintro e w7 ⟨a7, n7, c7, l7, rfl, h7, hk7⟩
  have K67 := Lib.hid hk7
  have K7 := Lib.hid (K6.out.trans hk7)
  have H7 := Lib.hid h7
  clear h7 hk7
  go_wp2_with fail
  have R7 := bagR_rows H7.out (by rw [List.length_append, L1.out, L2.out]; omega)
  have N7 : l7.length ≤ 400 := by
    have h1 := congrArg List.length H7.out.2.2.1
    have h2 := ownP_length (l1.map Ro.p ++ l2.map Ro.p)
    rw [List.length_append, L1.out, L2.out] at h2
    rw [List.length_map] at h1
    omega
  refine (join_is a0 a7 n0 n7 c0 c7 l0 l7 w7 (H0.out.kept K7.out) R7 F0.out (fit_own H7.out.2.2.1 (fit_append F1.out F2.out)) (by omega)).mono ?_
  rintro e w8 ⟨a8, n8, c8, l8, rfl, h8, hk8⟩
  rw [H7.out.2.2.1] at h8
  have K68 := Lib.hid (K67.out.trans hk8)
  have K8 := Lib.hid (K7.out.trans hk8)
  have H8 := Lib.hid h8
  have P7 := Lib.hid (own_fit (fit_append F1.out F2.out))
  have N7' := Lib.hid (show (ownP (l1.map Ro.p ++ l2.map Ro.p)).length ≤ 400 by rw [← H7.out.2.2.1, List.length_map]; exact N7)
  clear h8 hk8 R7 N7 H7 K67
  go_wp2_with fail
  have R6 := (bagR_rows H6.out (by rw [List.length_append, L2.out]; have := N5'.out; omega)).kept K68.out
  have R8 := bagR_rows H8.out (by rw [List.length_append, L0.out]; have := N7'.out; omega)
  have hs2 := same_is a6 a8 n6 n8 c6 c8 l6 l8 w8 R6 R8 (fit_own H6.out.2.2.1 (fit_append P5.out F2.out)) (fit_own H8.out.2.2.1 (fit_append F0.out P7.out))
  rw [H6.out.2.2.1, H8.out.2.2.1, same_grouped _ _ _ F0.out F1.out F2.out] at hs2
  refine hs2.mono ?_
  rintro e w9 ⟨rfl, hk9⟩
  have K9 := Lib.hid (K8.out.trans hk9)
  clear hs2 hk9 R6 R8 H6 H8
  have s0 : w9.cell? ⟨w.heap.size, 0, none⟩ = some (.int .i64 fr) := K9.out.cell (by simp only [World.cell?, BW.out]; rfl)
  have s1 : w9.cell? ⟨w.heap.size, 1, none⟩ = some (.int .i64 to) := K9.out.cell (by simp only [World.cell?, BW.out]; rfl)
  have KS := Lib.hid (K9.out.trans (Grows.drew w9).kept)
  have G1 := Lib.hid (show Fit ((l0.map Ro.p).filter fun q => inS fr to q.1.time) from fit_filter F0.out _)
  have G2 := Lib.hid (show Fit ((l0.map Ro.p).filter fun q => !inS fr to q.1.time) from fit_filter F0.out _)
  have M1 := Lib.hid (show ((l0.map Ro.p).filter fun q => inS fr to q.1.time).length ≤ 200 from Nat.le_trans (List.length_filter_le _ _) (by rw [L0.out]; exact k0))
  have M2 := Lib.hid (show ((l0.map Ro.p).filter fun q => !inS fr to q.1.time).length ≤ 200 from Nat.le_trans (List.length_filter_le _ _) (by rw [L0.out]; exact k0))
  go_wp2_with fail
  go_region_held3 (fun w' => w'.cell? ⟨w.heap.size, 0, none⟩ = some (.int .i64 fr) ∧ w'.cell? ⟨w.heap.size, 1, none⟩ = some (.int .i64 to)) (first | exact ⟨s0, s1⟩ | exact ⟨KA.out.cell s0, KA.out.cell s1⟩ | exact ⟨KB.out.cell (KA.out.cell s0), KB.out.cell (KA.out.cell s1)⟩ | exact ⟨KC.out.cell (KB.out.cell (KA.out.cell s0)), KC.out.cell (KB.out.cell (KA.out.cell s1))⟩ | exact ⟨KD.out.cell (KC.out.cell (KB.out.cell (KA.out.cell s0))), KD.out.cell (KC.out.cell (KB.out.cell (KA.out.cell s1)))⟩)
    (first | (go_at_call 19; refine (fWithin_is a0 n0 c0 l0 fr to _ (H0.out.kept KS.out).rows F0.out).mono ?_; rintro e va ⟨a10, n10, c10, l10, rfl, h10, hka⟩; have KA := Lib.hid hka; have H10 := Lib.hid h10; clear h10 hka) | (go_at_call 21; refine (fWithout_is a0 n0 c0 l0 fr to _ (H0.out.kept (KS.out.trans KA.out)).rows F0.out).mono ?_; rintro e vb ⟨a11, n11, c11, l11, rfl, h11, hkb⟩; have KB := Lib.hid hkb; have H11 := Lib.hid h11; clear h11 hkb) | (go_at_call 22; refine (join_is a10 a11 n10 n11 c10 c11 l10 l11 _ ((bagR_rows H10.out (Nat.lt_of_le_of_lt M1.out (by decide))).kept KB.out) (bagR_rows H11.out (Nat.lt_of_le_of_lt M2.out (by decide))) (fit_own H10.out.2.2.1 G1.out) (fit_own H11.out.2.2.1 G2.out) (lens_few H10.out.2.2.1 H11.out.2.2.1 M1.out M2.out)).mono ?_; rintro e vc ⟨a12, n12, c12, l12, rfl, h12, hkc⟩; rw [H10.out.2.2.1, H11.out.2.2.1] at h12; have KC := Lib.hid hkc; have H12 := Lib.hid h12; clear h12 hkc) | (go_at_call 26; refine (same_is a12 a0 n12 n0 c12 c0 l12 l0 _ (bagR_rows H12.out (own_few M1.out M2.out)) (H0.out.kept (((KS.out.trans KA.out).trans KB.out).trans KC.out)) (fit_own H12.out.2.2.1 (fit_append (own_fit G1.out) (own_fit G2.out))) F0.out).mono ?_; rintro e vd ⟨rfl, hkd⟩; rw [H12.out.2.2.1, same_apart (fun f => inS fr to f.time) _ F0.out]; have KD := Lib.hid hkd; clear hkd))
  have KE := Lib.hid ((((KS.out.trans KA.out).trans KB.out).trans KC.out).trans KD.out)
  clear s0 s1
  go_wp2_with fail
  refine (join_is a0 a1 n0 n1 c0 c1 l0 l1 vd (H0.out.kept KE.out) (H1.out.kept KE.out) F0.out F1.out (by omega)).mono ?_
  rintro e w10 ⟨a13, n13, c13, l13, rfl, h13, hk10⟩
  have K10 := Lib.hid (KE.out.trans hk10)
  have H13 := Lib.hid h13
  clear h13 hk10
  go_wp2_with fail
  obtain ⟨A, hA⟩ : ∃ A, A = wu (sumN (l0.map Ro.p)) := ⟨_, rfl⟩
  obtain ⟨B, hB⟩ : ∃ B, B = wu (sumN (l1.map Ro.p)) := ⟨_, rfl⟩
  have R13 := bagR_rows H13.out (by rw [List.length_append, L0.out, L1.out]; omega)
  have hc1 := count_is _ l13 w10 R13.rows
  rw [H13.out.2.2.1, count_join _ _ F0.out F1.out, ← hA, ← hB] at hc1
  have HA := Lib.hid hA
  have HB := Lib.hid hB
  refine hc1.mono ?_
  rintro e w11 ⟨rfl, hg11⟩
  have K11 := Lib.hid (K10.out.trans hg11.kept)
  clear hc1 hg11 R13 H13 hA hB
  unfold wu
  go_wp2_with fail
  have hc2 := count_is _ l0 w11 (H0.out.kept K11.out).rows
  rw [← HA.out] at hc2
  refine hc2.mono ?_
  rintro e w12 ⟨rfl, hg12⟩
  have K12 := Lib.hid (K11.out.trans hg12.kept)
  clear hc2 hg12
  go_wp2_with fail
  have hc3 := count_is _ l1 w12 (H1.out.kept K12.out).rows
  rw [← HB.out] at hc3
  refine hc3.mono ?_
  rintro e w13 ⟨rfl, hg13⟩
  have K13 := Lib.hid (K12.out.trans hg13.kept)
  clear hc3 hg13
  go_wp2_with fail
  go_ret
  exact ⟨rfl, GW.out.kept.trans K13.out⟩

set_option maxHeartbeats 3200000 in
set_option maxRecDepth 100000 in
theorem laws_many (a0 a1 a2 : Option Addr) (n0 n1 n2 c0 c1 c2 : Nat) (fr to : Int) (w : World) (h : 200 < n0 ∨ 200 < n1 ∨ 200 < n2) :
    Calls Try.prog 8 #[.slice a0 n0 c0, .slice a1 n1 c1, .slice a2 n2 c2, .agg #[.int .i64 fr, .int .i64 to]] w fun e w' => e = .returned (.bool true) ∧ Kept w w' := by
  obtain ⟨W, hW⟩ : ∃ W, W = w.alloc (.cells #[.int .i64 fr, .int .i64 to] 44) := ⟨_, rfl⟩
  have GW := Lib.hid (show Grows w W by rw [hW]; exact Grows.alloc _ _)
  have HW := Lib.hid hW
  clear hW
  by_cases h0 : 200 < n0
  · have q0 : (200 : Int) < (n0 : Int) := by omega
    go_enter Try.func8, Try.ntmps8
    go_wp2_with fail
    rw [← HW.out]
    refine (awake_is W).mono ?_
    rintro e w1 ⟨rfl, hk1⟩
    have K1 := Lib.hid (GW.out.kept.trans hk1)
    clear hk1
    go_wp2_with fail
    go_ret
    exact ⟨rfl, K1.out⟩
  · have q0 : ¬ (200 : Int) < (n0 : Int) := by omega
    by_cases h1 : 200 < n1
    · have q1 : (200 : Int) < (n1 : Int) := by omega
      go_enter Try.func8, Try.ntmps8
      go_wp2_with fail
      rw [← HW.out]
      refine (awake_is W).mono ?_
      rintro e w1 ⟨rfl, hk1⟩
      have K1 := Lib.hid (GW.out.kept.trans hk1)
      clear hk1
      go_wp2_with fail
      go_ret
      exact ⟨rfl, K1.out⟩
    · have q1 : ¬ (200 : Int) < (n1 : Int) := by omega
      have q2 : (200 : Int) < (n2 : Int) := by omega
      go_enter Try.func8, Try.ntmps8
      go_wp2_with fail
      rw [← HW.out]
      refine (awake_is W).mono ?_
      rintro e w1 ⟨rfl, hk1⟩
      have K1 := Lib.hid (GW.out.kept.trans hk1)
      clear hk1
      go_wp2_with fail
      go_ret
      exact ⟨rfl, K1.out⟩

theorem laws_is (a0 : Option Addr) (n0 c0 : Nat) (l0 : List Ro) (a1 : Option Addr) (n1 c1 : Nat) (l1 : List Ro) (a2 : Option Addr) (n2 c2 : Nat) (l2 : List Ro) (fr to : Int) (w : World) (h0 : RowsIn w a0 n0 c0 l0) (f0 : Fit (l0.map Ro.p)) (h1 : RowsIn w a1 n1 c1 l1) (f1 : Fit (l1.map Ro.p)) (h2 : RowsIn w a2 n2 c2 l2) (f2 : Fit (l2.map Ro.p)) :
    Calls Try.prog 8 #[.slice a0 n0 c0, .slice a1 n1 c1, .slice a2 n2 c2, .agg #[.int .i64 fr, .int .i64 to]] w fun e w' => e = .returned (.bool true) ∧ Kept w w' := by
  by_cases h : 200 < n0 ∨ 200 < n1 ∨ 200 < n2
  · exact laws_many a0 a1 a2 n0 n1 n2 c0 c1 c2 fr to w h
  · exact laws_few a0 a1 a2 n0 n1 n2 c0 c1 c2 l0 l1 l2 fr to w h0 f0 h1 f1 h2 f2 (by omega) (by omega) (by omega)

end Go.Proofs.Ytcbgnikbaepkaaa
