/- FactBags, walked. -/
import Derived.Test.YtcbgnikbaepkaaaJp
import Derived.Test.YtcbgnikbaepkaaaOr
namespace Go.Proofs.Ytcbgnikbaepkaaa
open Go.Shelf Go.RowKit Go.Lib Go.Sort Go.Proofs

theorem own_own (ps : Ps) (hf : Fit ps) : ownP (ownP ps) = ownP ps := by
  obtain ⟨_, a2, _, a4, _⟩ := ownP_inv ps hf
  exact own_congr a2 hf a4

theorem factBagR (v : Value) (l : List Ro) (w : World) (h : FactsAt w v l) : Calls Try.prog 16 #[v] w (BagR w (ones l)) :=
  (factBag_any v l w h).mono fun _ _ hb => hb.bagR (fit_ones l)

theorem refIs_rows {w' : World} {a : Option Addr} {n c : Nat} {l' : List Ro} {ps : Ps} {base : Nat} (h : n = l'.length ∧ OwnRows w' base (.slice a n c) l' ∧ l'.map Ro.p = ps ∧ ∀ y ∈ l', y.ok w') (hl : ps.length < 2199023255552) : RowsIn w' a n c l' := by
  refine h.2.1.rowsIn h.2.2.2 ?_
  have h1 := congrArg List.length h.2.2.1
  rw [List.length_map] at h1
  omega

theorem ownP_lt {ps : Ps} {N : Nat} (h : ps.length < N) : (ownP ps).length < N := Nat.lt_of_le_of_lt (ownP_length ps) h

theorem p_len (l : List Ro) : (l.map Ro.p).length = l.length := List.length_map ..

set_option maxHeartbeats 8000000 in
set_option maxRecDepth 100000 in
theorem bags_few (a0 a1 a2 : Option Addr) (n0 n1 n2 c0 c1 c2 : Nat) (l0 l1 l2 : List Ro) (w : World) (h0 : FactsAt w (.slice a0 n0 c0) l0) (e0 : n0 = l0.length) (h1 : RowsIn w a1 n1 c1 l1) (f1 : Fit (l1.map Ro.p)) (h2 : RowsIn w a2 n2 c2 l2) (f2 : Fit (l2.map Ro.p))
    (b0 : n0 ≤ 300) (b1 : n1 ≤ 300) (b2 : n2 ≤ 300) :
    Calls Try.prog 7 #[.slice a0 n0 c0, .slice a1 n1 c1, .slice a2 n2 c2] w fun e w' => e = .returned (.bool true) ∧ Kept w w' := by
  have m1 := h1.len
  have m2 := h2.len
  have k0 : l0.length ≤ 300 := by omega
  have k1 : l1.length ≤ 300 := by omega
  have k2 : l2.length ≤ 300 := by omega
  have H0 := Lib.hid h0
  have H1 := Lib.hid h1
  have H2 := Lib.hid h2
  have F1 := Lib.hid f1
  have F2 := Lib.hid f2
  have E0 := Lib.hid e0
  have M1 := Lib.hid m1
  have M2 := Lib.hid m2
  have q0 : ¬ (300 : Int) < (n0 : Int) := by omega
  have q1 : ¬ (300 : Int) < (n1 : Int) := by omega
  have q2 : ¬ (300 : Int) < (n2 : Int) := by omega
  have L1 := Lib.hid (p_len l1)
  have L2 := Lib.hid (p_len l2)
  clear h0 h1 h2 f1 f2 e0 m1 m2
  go_enter Try.func7, Try.ntmps7
  go_wp2_with fail
  refine (awake_is w).mono ?_
  rintro e w1 ⟨rfl, hk1⟩
  have K1 := Lib.hid hk1
  have S1 := Lib.hid (H1.out.kept hk1).src
  have hb1 : w.heap.size ≤ w1.heap.size := hk1.size
  have tok1 : True := trivial
  clear hk1
  go_wp2_with (first | (at_builtin; have _t := tok1; refine wpList_append_rows rfl _ _ rfl w1 w.heap.size (.slice none 0 0) [] rfl (OwnRows.nil _ _) (.slice a1 n1 c1) l1 rfl S1.out (by simp only [List.length_nil]; omega) hb1 n1 (by simp only [List.length_nil]; have := M1.out; omega) ?_; intro a3 c3 w2 ho2 hg2; have O2 := Lib.hid ho2; have K2 := Lib.hid (kept_grownBy K1.out hg2 (fun k e => by cases e)); have S2 := Lib.hid (H2.out.kept K2.out).src; have hb2 : w.heap.size ≤ w2.heap.size := K2.out.size; clear ho2 hg2 tok1) | (at_builtin; refine wpList_append_rows rfl _ _ rfl w2 w.heap.size (.slice a3 n1 c3) l1 rfl O2.out (.slice a2 n2 c2) l2 rfl S2.out (by omega) hb2 (n1 + n2) (by have := M1.out; have := M2.out; omega) ?_; intro a4 c4 w3 ho3 hg3; have O3 := Lib.hid ho3; have K3 := Lib.hid (kept_grownBy K2.out hg3 (fun k e => (O2.out.lt e).1)); clear ho3 hg3))
  have B3 := Lib.hid (show RowsIn w3 a4 (n1 + n2) c4 (l1 ++ l2) from O3.out.rowsIn (fun x hx => by
    rcases List.mem_append.1 hx with h | h
    · exact FaAt.kept (H1.out.rows.ok x h) K3.out
    · exact FaAt.kept (H2.out.rows.ok x h) K3.out) (by rw [List.length_append]; omega))
  have F3 := Lib.hid (show Fit ((l1 ++ l2).map Ro.p) by rw [List.map_append]; exact fit_append F1.out F2.out)
  -- one
  refine (factBagR _ l0 w3 (H0.out.kept K3.out)).mono ?_
  rintro e w4 ⟨a5, n5, c5, l5, rfl, h5, hk5⟩
  have K4 := Lib.hid hk5
  have H5 := Lib.hid h5
  clear h5 hk5
  go_wp2_with fail
  refine (refBag_is a0 n0 c0 l0 w4 (H0.out.kept (K3.out.trans K4.out)) E0.out (by omega)).mono ?_
  rintro e w5 ⟨a6, n6, c6, l6, rfl, h6, hk6⟩
  have K5 := Lib.hid hk6
  have H6 := Lib.hid h6
  clear h6 hk6
  go_wp2_with fail
  have hlo : (ones l0).length < 2199023255552 := by unfold ones; rw [List.length_map]; omega
  have R5 := (bagR_rows H5.out hlo).kept K5.out
  have R6 := refIs_rows H6.out (by rw [← ones_nz l0 (by omega)]; exact ownP_lt hlo)
  have hi1 := is_is a5 a6 n5 n6 c5 c6 l5 l6 w5 R5.rows R6.rows R5.len R6.len
  rw [H5.out.2.2.1, H6.out.2.2.1, ones_nz l0 (by omega), eqP_self] at hi1
  refine hi1.mono ?_
  rintro e w6 ⟨rfl, hg⟩
  have K6 := Lib.hid (((K3.out.trans K4.out).trans K5.out).trans hg.kept)
  have B6 := Lib.hid (B3.out.kept ((K4.out.trans K5.out).trans hg.kept))
  clear hg hi1 R5 R6 hlo
  go_wp2_with fail
  -- two
  refine (join_is a1 a2 n1 n2 c1 c2 l1 l2 w6 (H1.out.kept K6.out) (H2.out.kept K6.out) F1.out F2.out (by omega)).mono ?_
  rintro e w7 ⟨a7, n7, c7, l7, rfl, h7, hk7⟩
  have K7 := Lib.hid hk7
  have H7 := Lib.hid h7
  clear h7 hk7
  go_wp2_with fail
  refine (refOwn_is a4 (n1 + n2) c4 (l1 ++ l2) w7 (B6.out.kept K7.out).rows B6.out.len (by rw [List.length_append]; omega)).mono ?_
  rintro e w8 ⟨a8, n8, c8, l8, rfl, h8, hk8⟩
  have K8 := Lib.hid hk8
  have H8 := Lib.hid h8
  clear h8 hk8
  go_wp2_with fail
  have hlj : (l1.map Ro.p ++ l2.map Ro.p).length < 2199023255552 := by rw [List.length_append, L1.out, L2.out]; omega
  have R7 := (bagR_rows H7.out hlj).kept K8.out
  have R8 := refIs_rows H8.out (by rw [List.map_append]; exact ownP_lt hlj)
  have hi2 := is_is a7 a8 n7 n8 c7 c8 l7 l8 w8 R7.rows R8.rows R7.len R8.len
  rw [H7.out.2.2.1, H8.out.2.2.1, List.map_append, eqP_self] at hi2
  refine hi2.mono ?_
  rintro e w9 ⟨rfl, hg⟩
  have K9 := Lib.hid (((K6.out.trans K7.out).trans K8.out).trans hg.kept)
  clear hg hi2 R7 R8 hlj
  go_wp2_with fail
  -- same
  refine (refOwn_is a1 n1 c1 l1 w9 (H1.out.kept K9.out).rows M1.out (by omega)).mono ?_
  rintro e w10 ⟨a9, n9, c9, l9, rfl, h9, hk9⟩
  have K10 := Lib.hid hk9
  have H9 := Lib.hid h9
  clear h9 hk9
  go_wp2_with fail
  refine (refOwn_is a2 n2 c2 l2 w10 (H2.out.kept (K9.out.trans K10.out)).rows M2.out (by omega)).mono ?_
  rintro e w11 ⟨a10, n10, c10, l10, rfl, h10, hk10⟩
  have K11 := Lib.hid hk10
  have H10 := Lib.hid h10
  clear h10 hk10
  go_wp2_with fail
  have R9 := (refIs_rows H9.out (ownP_lt (by rw [L1.out]; omega))).kept K11.out
  have R10 := refIs_rows H10.out (ownP_lt (by rw [L2.out]; omega))
  have hi3 := is_is a9 a10 n9 n10 c9 c10 l9 l10 w11 R9.rows R10.rows R9.len R10.len
  rw [H9.out.2.2.1, H10.out.2.2.1] at hi3
  obtain ⟨sm, hsm⟩ : ∃ sm, sm = eqP (ownP (l1.map Ro.p)) (ownP (l2.map Ro.p)) := ⟨_, rfl⟩
  rw [← hsm] at hi3
  have HSM := Lib.hid hsm
  refine hi3.mono ?_
  rintro e w12 ⟨rfl, hg⟩
  have K12 := Lib.hid (((K9.out.trans K10.out).trans K11.out).trans hg.kept)
  clear hg hi3 R9 R10 hsm
  go_wp2_with fail
  -- Same(a, b) == same
  have hs1 := same_is a1 a2 n1 n2 c1 c2 l1 l2 w12 (H1.out.kept K12.out) (H2.out.kept K12.out) F1.out F2.out
  rw [← HSM.out] at hs1
  refine hs1.mono ?_
  rintro e w13 ⟨rfl, hk13⟩
  have K13 := Lib.hid (K12.out.trans hk13)
  clear hs1 hk13
  cases sm
  all_goals
    go_wp2_with fail
    refine (refOwn_is a1 n1 c1 l1 w13 (H1.out.kept K13.out).rows M1.out (by omega)).mono ?_
    rintro e w14 ⟨a11, n11, c11, l11, rfl, h11, hk11⟩
    have K14 := Lib.hid hk11
    have H11 := Lib.hid h11
    clear h11 hk11
    go_wp2_with fail
    have R11 := refIs_rows H11.out (ownP_lt (by rw [L1.out]; omega))
    have hs2 := same_is a1 a11 n1 n11 c1 c11 l1 l11 w14 (H1.out.kept (K13.out.trans K14.out)) R11 F1.out (by rw [H11.out.2.2.1]; exact (ownP_inv _ F1.out).2.1)
    rw [H11.out.2.2.1, own_own _ F1.out, eqP_self] at hs2
    refine hs2.mono ?_
    rintro e w15 ⟨rfl, hk15⟩
    have K15 := Lib.hid ((K13.out.trans K14.out).trans hk15)
    clear hs2 hk15 R11
    go_wp2_with fail
    go_ret
    exact ⟨rfl, K15.out⟩

set_option maxHeartbeats 3200000 in
set_option maxRecDepth 100000 in
theorem bags_many (a0 a1 a2 : Option Addr) (n0 n1 n2 c0 c1 c2 : Nat) (w : World) (h : 300 < n0 ∨ 300 < n1 ∨ 300 < n2) :
    Calls Try.prog 7 #[.slice a0 n0 c0, .slice a1 n1 c1, .slice a2 n2 c2] w fun e w' => e = .returned (.bool true) ∧ Kept w w' := by
  by_cases h0 : 300 < n0
  · have q0 : (300 : Int) < (n0 : Int) := by omega
    go_enter Try.func7, Try.ntmps7
    go_wp2_with fail
    refine (awake_is w).mono ?_
    rintro e w1 ⟨rfl, hk1⟩
    have K1 := Lib.hid hk1
    clear hk1
    go_wp2_with fail
    go_ret
    exact ⟨rfl, K1.out⟩
  · have q0 : ¬ (300 : Int) < (n0 : Int) := by omega
    by_cases h1 : 300 < n1
    · have q1 : (300 : Int) < (n1 : Int) := by omega
      go_enter Try.func7, Try.ntmps7
      go_wp2_with fail
      refine (awake_is w).mono ?_
      rintro e w1 ⟨rfl, hk1⟩
      have K1 := Lib.hid hk1
      clear hk1
      go_wp2_with fail
      go_ret
      exact ⟨rfl, K1.out⟩
    · have q1 : ¬ (300 : Int) < (n1 : Int) := by omega
      have q2 : (300 : Int) < (n2 : Int) := by omega
      go_enter Try.func7, Try.ntmps7
      go_wp2_with fail
      refine (awake_is w).mono ?_
      rintro e w1 ⟨rfl, hk1⟩
      have K1 := Lib.hid hk1
      clear hk1
      go_wp2_with fail
      go_ret
      exact ⟨rfl, K1.out⟩

theorem bags_is (a0 : Option Addr) (n0 c0 : Nat) (l0 : List Ro) (a1 : Option Addr) (n1 c1 : Nat) (l1 : List Ro) (a2 : Option Addr) (n2 c2 : Nat) (l2 : List Ro) (w : World) (h0 : n0 < 2199023255552 → FactsAt w (.slice a0 n0 c0) l0) (e0 : n0 = l0.length) (h1 : RowsIn w a1 n1 c1 l1) (f1 : Fit (l1.map Ro.p)) (h2 : RowsIn w a2 n2 c2 l2) (f2 : Fit (l2.map Ro.p)) :
    Calls Try.prog 7 #[.slice a0 n0 c0, .slice a1 n1 c1, .slice a2 n2 c2] w fun e w' => e = .returned (.bool true) ∧ Kept w w' := by
  by_cases h : 300 < n0 ∨ 300 < n1 ∨ 300 < n2
  · exact bags_many a0 a1 a2 n0 n1 n2 c0 c1 c2 w h
  · exact bags_few a0 a1 a2 n0 n1 n2 c0 c1 c2 l0 l1 l2 w (h0 (by omega)) e0 h1 f1 h2 f2 (by omega) (by omega) (by omega)

end Go.Proofs.Ytcbgnikbaepkaaa
