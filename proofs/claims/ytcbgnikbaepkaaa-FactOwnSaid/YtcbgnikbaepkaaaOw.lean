/- FactOwn, walked. -/
import Derived.Test.YtcbgnikbaepkaaaSo
import Derived.Test.YtcbgnikbaepkaaaBs
namespace Go.Proofs.Ytcbgnikbaepkaaa
open Go.Shelf Go.RowKit Go.Lib Go.Sort Go.Proofs

/-- A bag whose blocks lie from B to below T. -/
structure Bagged (B T : Nat) (w : World) (a : Option Addr) (n c : Nat) (l : List Ro) : Prop where
  own : OwnRows w B (.slice a n c) l
  mine : ∀ y ∈ l, y.mine w
  at0 : ∀ k, (Value.slice a n c).ownBlock = some k → B ≤ k ∧ k < T
  at1 : ∀ y ∈ l, ∀ k, (y.d.ownBlock = some k ∨ y.m.ownBlock = some k) → (B ≤ k ∧ k < T) ∧ (Value.slice a n c).ownBlock ≠ some k
  len : n = l.length ∧ l.length < 2199023255552

theorem soft_lt {w : World} {v : Value} (h : SoftV w v) {k : Nat} (hk : v.ownBlock = some k) : k < w.heap.size := by
  obtain ⟨cur, e, hc⟩ := h k hk
  exact (Array.getElem?_eq_some_iff.1 hc).1

theorem bagged_of {w w' : World} {a : Option Addr} {n c : Nat} {l' : List Ro} {ps : Ps} (h : n = l'.length ∧ OwnRows w' w.heap.size (.slice a n c) l' ∧ l'.map Ro.p = ownP ps ∧ ∀ y ∈ l', y.mine w' ∧ ∀ g, (Value.slice a n c).ownBlock = some g → Apart w.heap.size g y) (hl : ps.length < 2199023255552) : Bagged w.heap.size w'.heap.size w' a n c l' := by
  obtain ⟨h1, h2, h3, h4⟩ := h
  have hlen : l'.length < 2199023255552 := by
    have e1 := congrArg List.length h3
    have e2 := ownP_length ps
    rw [List.length_map] at e1
    omega
  refine ⟨h2, fun y hy => (h4 y hy).1, fun k hk => h2.lt hk, fun y hy k hk => ?_, h1, hlen⟩
  obtain ⟨g, hg⟩ : ∃ g, a = some ⟨g, 0, none⟩ := by
    rcases h2.2 with ⟨he, hn⟩ | ⟨g, cap, cur, he, _⟩
    · have := List.length_pos_of_mem hy
      omega
    · injection he with e1 _ _
      exact ⟨g, e1⟩
  subst hg
  obtain ⟨hm, hap⟩ := h4 y hy
  have hap := hap g rfl
  rcases hk with hk | hk
  · exact ⟨⟨(hap.1 k hk).1, soft_lt hm.2.1 hk⟩, fun e => by cases e; exact (hap.1 _ hk).2 rfl⟩
  · exact ⟨⟨(hap.2 k hk).1, soft_lt hm.2.2 hk⟩, fun e => by cases e; exact (hap.2 _ hk).2 rfl⟩

theorem Bagged.kept {B T : Nat} {w w' : World} {a : Option Addr} {n c : Nat} {l : List Ro} (h : Bagged B T w a n c l) (hk : Kept w w') : Bagged B T w' a n c l :=
  ⟨h.own.kept hk, fun y hy => (h.mine y hy).kept hk, h.at0, h.at1, h.len⟩

theorem Bagged.movedF {B T : Nat} {F : Nat → Prop} {w w' : World} {a : Option Addr} {n c : Nat} {l : List Ro} (h : Bagged B T w a n c l) (hm : MovedF F w w') (hF : ∀ k, F k → k < B ∨ T ≤ k) : Bagged B T w' a n c l := by
  have hb : ∀ k, B ≤ k → k < T → w'.heap[k]? = w.heap[k]? := fun k h1 h2 => hm.block k (fun hf => by have := hF k hf; omega)
  refine ⟨h.own.same fun k hk => hb k (h.at0 k hk).1 (h.at0 k hk).2, fun y hy => ?_, h.at0, h.at1, h.len⟩
  have h1 := h.at1 y hy
  obtain ⟨hok, s1, s2⟩ := h.mine y hy
  have d1 : ∀ k, y.d.ownBlock = some k → w'.heap[k]? = w.heap[k]? := fun k hk => hb k (h1 k (.inl hk)).1.1 (h1 k (.inl hk)).1.2
  have d2 : ∀ k, y.m.ownBlock = some k → w'.heap[k]? = w.heap[k]? := fun k hk => hb k (h1 k (.inr hk)).1.1 (h1 k (.inr hk)).1.2
  exact ⟨⟨hok.dims.same d1, hok.meas.same d2, hok.dl, hok.ml⟩, s1.same d1, s2.same d2⟩

theorem Bagged.rows {B T : Nat} {w : World} {a : Option Addr} {n c : Nat} {l : List Ro} (h : Bagged B T w a n c l) : RowsIn w a n c l := h.own.rowsIn (fun y hy => (h.mine y hy).1) h.len.2

theorem cells_len {w : World} {a : Option Addr} {n c : Nat} {xs : List Value} (h : Cells w (.slice a n c) xs) : n = xs.length := by
  rcases h with ⟨he, hx⟩ | ⟨A, c', he, hc⟩
  · injection he with e1 e2 e3
    subst hx e2; rfl
  · injection he with e1 e2 e3

theorem Kept.movedF {F : Nat → Prop} {a b c : World} (h : Kept a b) (k : MovedF F b c) (hF : ∀ i, F i → a.heap.size ≤ i) : Kept a c :=
  ⟨k.os.trans h.os, k.tape.trans h.tape, k.output.trans h.output, Nat.le_trans h.size k.size, fun i hi => (k.block i (fun hf => by have := hF i hf; omega)).trans (h.block i hi)⟩

/-- A bag written over. -/
theorem spoil_bag {B T : Nat} {w : World} {a : Option Addr} {n c : Nat} {l : List Ro} (h : Bagged B T w a n c l) :
    Calls Try.prog 23 #[.slice a n c] w fun e w' => e = .returned (.tuple #[]) ∧ ∃ F : Nat → Prop, MovedF F w w' ∧ ∀ k, F k → B ≤ k ∧ k < T := by
  by_cases h0 : l = []
  · subst h0
    have hn : n = 0 := h.len.1
    subst hn
    refine (spoil_empty a c w).mono ?_
    rintro e w' ⟨rfl, rfl⟩
    exact ⟨rfl, fun _ => False, MovedF.refl _ _, fun k hk => hk.elim⟩
  · obtain ⟨g, hg⟩ : ∃ g, a = some ⟨g, 0, none⟩ := by
      rcases h.own.2 with ⟨he, hn⟩ | ⟨g, cap, cur, he, _⟩
      · exact absurd (List.eq_nil_of_length_eq_zero hn) h0
      · injection he with e1 _ _
        exact ⟨g, e1⟩
    subst hg
    refine (spoil_is g n c l w h.len.1 (by have := h.len; omega) (fun j x hx => ?_) (fun x hx => ?_)).mono ?_
    · have hxm := List.mem_of_getElem? hx
      obtain ⟨⟨c0, c1, c2, c3⟩, cf⟩ := h.own.cells hx
      obtain ⟨hok, s1, s2⟩ := h.mine x hxm
      exact ⟨⟨c1, c2⟩, ⟨_, c0⟩, ⟨_, c3⟩, ⟨cf _, cf _⟩, open1_of hok.dims (cells_len hok.dims) s1, open1_of hok.meas (cells_len hok.meas) s2⟩
    · obtain ⟨hok, s1, s2⟩ := h.mine x hx
      have e1 := cells_len hok.dims
      have e2 := cells_len hok.meas
      have e3 := hok.dl
      have e4 := hok.ml
      rw [List.length_map] at e1 e2
      exact ⟨⟨fun e => (h.at1 x hx g (.inl e)).2 rfl, fun e => (h.at1 x hx g (.inr e)).2 rfl⟩, by omega, by omega⟩
    · rintro e w' ⟨rfl, hm⟩
      refine ⟨rfl, _, hm, fun k hk => ?_⟩
      rcases hk with rfl | ⟨x, hx, hk⟩
      · exact h.at0 k rfl
      · exact (h.at1 x hx k hk).1

set_option maxHeartbeats 8000000 in
set_option maxRecDepth 100000 in
theorem own_few_law (a0 : Option Addr) (n0 c0 : Nat) (l0 : List Ro) (fr to : Int) (w : World) (h0 : FactsAt w (.slice a0 n0 c0) l0) (e0 : n0 = l0.length) (b0 : n0 ≤ 100) :
    Calls Try.prog 6 #[.slice a0 n0 c0, .agg #[.int .i64 fr, .int .i64 to]] w fun e w' => e = .returned (.bool true) ∧ Kept w w' := by
  obtain ⟨W, hW⟩ : ∃ W, W = w.alloc (.cells #[.int .i64 fr, .int .i64 to] 44) := ⟨_, rfl⟩
  have gW : Grows w W := by rw [hW]; exact Grows.alloc _ _
  have bW : W.heap[w.heap.size]? = some (.cells #[.int .i64 fr, .int .i64 to] 44 (0, 0)) := by rw [hW]; exact (MapKept.heap_alloc _ _).1
  have k0 : l0.length ≤ 100 := by omega
  have H0 := Lib.hid (h0.kept gW.kept)
  have HW := Lib.hid hW
  have GW := Lib.hid gW
  have BW := Lib.hid bW
  have HO := Lib.hid (show (ones l0).length < 2199023255552 by unfold ones; rw [List.length_map]; omega)
  have FO := Lib.hid (show Fit (ones l0) from fit_ones l0)
  have q0 : ¬ (100 : Int) < (n0 : Int) := by omega
  clear h0 e0 hW gW bW
  go_enter Try.func6, Try.ntmps6
  go_wp2_with fail
  rw [← HW.out]
  refine (awake_is W).mono ?_
  rintro e w1 ⟨rfl, hk1⟩
  have K1 := Lib.hid hk1
  clear hk1
  go_wp2_with fail
  -- b
  refine (factBagR _ l0 w1 (H0.out.kept K1.out)).mono ?_
  rintro e w2 ⟨a1, n1, c1, l1, rfl, h1, hk2⟩
  have B1 := Lib.hid (bagged_of h1 HO.out)
  have P1 := Lib.hid h1.2.2.1
  have J2 := Lib.hid hk2
  clear h1 hk2
  go_wp2_with fail
  -- was
  refine (factBagR _ l0 w2 (H0.out.kept (K1.out.trans J2.out))).mono ?_
  rintro e w3 ⟨a2, n2, c2, l2, rfl, h2, hk3⟩
  have B2 := Lib.hid (bagged_of h2 HO.out)
  have P2 := Lib.hid h2.2.2.1
  have J3 := Lib.hid hk3
  have C1 := Lib.hid (B1.out.kept hk3)
  clear h2 hk3
  have s0 : w3.cell? ⟨w.heap.size, 0, none⟩ = some (.int .i64 fr) := ((K1.out.trans J2.out).trans J3.out).cell (by simp only [World.cell?, BW.out]; rfl)
  have s1 : w3.cell? ⟨w.heap.size, 1, none⟩ = some (.int .i64 to) := ((K1.out.trans J2.out).trans J3.out).cell (by simp only [World.cell?, BW.out]; rfl)
  go_wp2_with fail
  -- c
  have F1 := Lib.hid (show Fit (l1.map Ro.p) from fit_own P1.out FO.out)
  refine (fWithin_is a1 n1 c1 l1 fr to w3 C1.out.rows.rows F1.out).mono ?_
  rintro e w4 ⟨a3, n3, c3, l3, rfl, h3, hk4⟩
  have B3 := Lib.hid (bagged_of h3 (Nat.lt_of_le_of_lt (List.length_filter_le _ _) (by rw [List.length_map]; exact B1.out.len.2)))
  have J4 := Lib.hid hk4
  clear h3 hk4 s0 s1
  go_wp2_with fail
  -- d
  have hnone : RowsIn w4 none 0 0 [] := ⟨⟨⟨none, 0, rfl⟩, (fun _ _ _ _ i hi => by simp at hi), (fun x hx => by cases hx), by decide⟩, rfl, fun _ => rfl⟩
  refine (join_is a1 none n1 0 c1 0 l1 [] w4 (C1.out.kept J4.out).rows hnone F1.out (fun p hp => by cases hp) (by have := B1.out.len.2; simpa using this)).mono ?_
  rintro e w5 ⟨a4, n4, c4, l4, rfl, h4, hk5⟩
  have B4 := Lib.hid (bagged_of h4 (by have := B1.out.len.2; simpa using this))
  have J5 := Lib.hid hk5
  clear h4 hk5 hnone
  have z1 := K1.out.size
  have z2 := J2.out.size
  have z3 := J3.out.size
  have z4 := J4.out.size
  have z5 := J5.out.size
  go_wp2_with fail
  -- spoil(c)
  refine (spoil_bag (B3.out.kept J5.out)).mono ?_
  rintro e w6 ⟨rfl, F, hm, hF⟩
  have D1 := Lib.hid (((C1.out.kept J4.out).kept J5.out).movedF hm (fun k hk => by have := hF k hk; omega))
  have D2 := Lib.hid (((B2.out.kept J4.out).kept J5.out).movedF hm (fun k hk => by have := hF k hk; omega))
  have D4 := Lib.hid (B4.out.movedF hm (fun k hk => by have := hF k hk; omega))
  have K6 := Lib.hid (Kept.movedF ((((K1.out.trans J2.out).trans J3.out).trans J4.out).trans J5.out) hm (fun k hk => by have := hF k hk; omega))
  clear hm hF
  go_wp2_with fail
  -- spoil(d)
  refine (spoil_bag D4.out).mono ?_
  rintro e w7 ⟨rfl, F, hm, hF⟩
  have E1 := Lib.hid (D1.out.movedF hm (fun k hk => by have := hF k hk; omega))
  have E2 := Lib.hid (D2.out.movedF hm (fun k hk => by have := hF k hk; omega))
  have K7 := Lib.hid (Kept.movedF K6.out hm (fun k hk => by have := hF k hk; omega))
  clear hm hF
  go_wp2_with fail
  have hi1 := is_is a1 a2 n1 n2 c1 c2 l1 l2 w7 E1.out.rows.rows E2.out.rows.rows E1.out.rows.len E2.out.rows.len
  rw [P1.out, P2.out, eqP_self] at hi1
  refine hi1.mono ?_
  rintro e w8 ⟨rfl, hg⟩
  have G1 := Lib.hid (E1.out.kept hg.kept)
  have G2 := Lib.hid (E2.out.kept hg.kept)
  have K8 := Lib.hid (K7.out.trans hg.kept)
  clear hi1 hg
  go_wp2_with fail
  -- spoil(b)
  refine (spoil_bag G1.out).mono ?_
  rintro e w9 ⟨rfl, F, hm, hF⟩
  have I2 := Lib.hid (G2.out.movedF hm (fun k hk => by have := hF k hk; omega))
  have K9 := Lib.hid (Kept.movedF K8.out hm (fun k hk => by have := hF k hk; omega))
  clear hm hF
  go_wp2_with fail
  refine (factBagR _ l0 w9 (H0.out.kept K9.out)).mono ?_
  rintro e w10 ⟨a5, n5, c5, l5, rfl, h5, hk10⟩
  have B5 := Lib.hid (bagged_of h5 HO.out)
  have P5 := Lib.hid h5.2.2.1
  have I3 := Lib.hid (I2.out.kept hk10)
  have K10 := Lib.hid (K9.out.trans hk10)
  clear h5 hk10
  go_wp2_with fail
  have hi2 := is_is a5 a2 n5 n2 c5 c2 l5 l2 w10 B5.out.rows.rows I3.out.rows.rows B5.out.rows.len I3.out.rows.len
  rw [P5.out, P2.out, eqP_self] at hi2
  refine hi2.mono ?_
  rintro e w11 ⟨rfl, hg⟩
  have K11 := Lib.hid (K10.out.trans hg.kept)
  clear hi2 hg
  go_wp2_with fail
  go_ret
  exact ⟨rfl, GW.out.kept.trans K11.out⟩

theorem own_many_law (a0 : Option Addr) (n0 c0 : Nat) (fr to : Int) (w : World) (b0 : 100 < n0) :
    Calls Try.prog 6 #[.slice a0 n0 c0, .agg #[.int .i64 fr, .int .i64 to]] w fun e w' => e = .returned (.bool true) ∧ Kept w w' := by
  obtain ⟨W, hW⟩ : ∃ W, W = w.alloc (.cells #[.int .i64 fr, .int .i64 to] 44) := ⟨_, rfl⟩
  have GW := Lib.hid (show Grows w W by rw [hW]; exact Grows.alloc _ _)
  have HW := Lib.hid hW
  have q0 : (100 : Int) < (n0 : Int) := by omega
  clear hW
  go_enter Try.func6, Try.ntmps6
  go_wp2_with fail
  rw [← HW.out]
  refine (awake_is W).mono ?_
  rintro e w1 ⟨rfl, hk1⟩
  have K1 := Lib.hid (GW.out.kept.trans hk1)
  clear hk1
  go_wp2_with fail
  go_ret
  exact ⟨rfl, K1.out⟩

theorem own_law (a0 : Option Addr) (n0 c0 : Nat) (l0 : List Ro) (fr to : Int) (w : World) (h0 : n0 < 2199023255552 → FactsAt w (.slice a0 n0 c0) l0) (e0 : n0 = l0.length) :
    Calls Try.prog 6 #[.slice a0 n0 c0, .agg #[.int .i64 fr, .int .i64 to]] w fun e w' => e = .returned (.bool true) ∧ Kept w w' := by
  by_cases h : 100 < n0
  · exact own_many_law a0 n0 c0 fr to w h
  · exact own_few_law a0 n0 c0 l0 fr to w (h0 (by omega)) e0 (by omega)

end Go.Proofs.Ytcbgnikbaepkaaa
