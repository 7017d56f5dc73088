/- The book: an entry is taken out. -/
import Derived.Test.YtigbodokmkpohaaV
namespace Go.Proofs.Ytigbodokmkpohaa
open Go.RowKit

theorem Try.info9 : (Try.prog.info? 9).map (fun i => (i.zero, i.size, i.bytes)) = some (some (.string ByteArray.empty), 1, 16) := by kernel_rfl
theorem Try.info3 : (Try.prog.info? 3).map (fun i => (i.zero, i.size, i.bytes)) = some (some (.int .i64 0), 1, 8) := by kernel_rfl

/-- What stands behind a place of a slice. -/
theorem run_slice_back {P : Program} (t e : TypeId) (ht : P.underlying t = some (.slice e)) (inf : TypeInfo) (hi : P.info? e = some inf) (h1 : inf.size = 1) (g n c i : Nat) (hi2 : i < n) (hnc : n ≤ c) :
    ∃ a2 : Addr, (∀ W, (Instr.slice t (.slice (some ⟨g, 0, none⟩) n c) (some (.int .i64 ((i : Int) + 1))) none none).run P W = .ok (.slice (some a2) (n - (i + 1)) (c - (i + 1))) W) ∧ a2.block = g ∧
      ∀ (W : World) base (xs : List Value), WRow W base e (.slice (some ⟨g, 0, none⟩) n c) xs → ∀ (j : Nat) (u : Value), (xs.drop (i + 1))[j]? = some u → W.cell? (a2.add j) = some u := by
  have hle : (i : Int) + 1 ≤ (n : Int) := by omega
  have h0 : (0 : Int) ≤ (i : Int) + 1 := by omega
  have htn : ((i : Int) + 1).toNat = i + 1 := by omega
  by_cases hc : c = i + 1
  · refine ⟨⟨g, 0, none⟩, fun W => ?_, rfl, fun W base xs h j u hu => ?_⟩
    · have hn : n = i + 1 := by omega
      subst hc; subst hn
      simp [Instr.slice, Instr.sliceBounds, Instr.sliceBound, run_underlying ht, asIntOf, sizeOf, typeInfo, hi, h0, hle, htn, Result.andThen]
    · have hl := h.len
      rw [List.drop_of_length_le (by omega)] at hu
      cases hu
  · refine ⟨⟨g, i + 1, none⟩, fun W => ?_, rfl, fun W base xs h j u hu => ?_⟩
    · simp [Instr.slice, Instr.sliceBounds, Instr.sliceBound, run_underlying ht, asIntOf, sizeOf, typeInfo, hi, h0, hle, htn, h1, hc, Result.andThen, Addr.add]
    · rw [List.getElem?_drop] at hu
      have hj := (List.getElem?_eq_some_iff.1 hu).1
      have := (h.cellAt hj).1
      have e1 : (⟨g, i + 1, none⟩ : Addr).add j = ⟨g, i + 1 + j, none⟩ := by unfold Addr.add; split <;> simp_all
      rw [e1, this]
      rw [List.getElem?_eq_getElem hj] at hu
      exact hu

theorem eraseIdx_map {α β : Type} (f : α → β) (l : List α) (i : Nat) : (l.map f).take i ++ (l.map f).drop (i + 1) = (l.eraseIdx i).map f := by
  rw [List.eraseIdx_eq_take_drop_succ, List.map_append, List.map_take, List.map_drop]

/-- One of the book's three rows is written anew: what stays. -/
theorem field_fin {w w2 : World} {base K j e : Nat} {v v' : Value} {xs ys : List Value} {cs : Array Value} (hc : w.heap[K]? = some (.cells cs 39 (0, 0))) (hrow : WRow w base e v xs) (he : e ≠ 39)
    (hg : w.grownBy w2 v.ownBlock) (hr2 : WRow w2 base e v' ys) :
    w2.heap[K]? = some (.cells cs 39 (0, 0)) ∧ (w2.setCell ⟨K, j, none⟩ v').heap[K]? = some (.cells (cs.setIfInBounds j v') 39 (0, 0)) ∧ WRow (w2.setCell ⟨K, j, none⟩ v') base e v' ys ∧
      Keeps (fun b => b = K ∨ v.ownBlock = some b) w (w2.setCell ⟨K, j, none⟩ v') := by
  have hKlt := (Array.getElem?_eq_some_iff.1 hc).1
  have hK2 : w2.heap[K]? = some (.cells cs 39 (0, 0)) := (hg.block K hKlt (fun e2 => by
    obtain ⟨cur, h⟩ := (hrow.lt e2.symm).2.2
    have h2 := congrArg elemOf (hc.symm.trans h)
    simp only [elemOf] at h2
    exact he h2.symm)).trans hc
  refine ⟨hK2, heap_setCell_at hK2 v', hr2.same (fun k hk => Below.heap_setCell _ _ _ _ (fun e2 => ?_)), ?_⟩
  · simp only at e2
    subst e2
    obtain ⟨cur, h⟩ := (hr2.lt hk).2.2
    have h2 := congrArg elemOf (hK2.symm.trans h)
    simp only [elemOf] at h2
    exact he h2.symm
  · exact (Keeps.grown hg (fun k e _ => .inr e)).trans (Keeps.setCell _ _ _ (fun _ => .inl rfl))

theorem cells_back {w : World} {base e g n c i c2 : Nat} {xs : List Value} {b : Addr} (h : WRow w base e (.slice (some ⟨g, 0, none⟩) n c) xs)
    (hs : ∀ (W : World) base (xs : List Value), WRow W base e (.slice (some ⟨g, 0, none⟩) n c) xs → ∀ (j : Nat) (u : Value), (xs.drop (i + 1))[j]? = some u → W.cell? (b.add j) = some u) :
    Cells w (.slice (some b) (n - (i + 1)) c2) (xs.drop (i + 1)) := by
  have := h.len.1
  exact .inr ⟨b, c2, by rw [List.length_drop, this], fun j u hu => hs w base xs h j u hu⟩

theorem one_str (l : List ByteArray) (k : Nat) : ∀ u ∈ (l.map Value.string).drop k, u.oneCell' = true := fun u hu => by
  obtain ⟨_, _, rfl⟩ := List.mem_map.1 (List.mem_of_mem_drop hu); rfl
theorem one_int (l : List Int) (k : Nat) : ∀ u ∈ (l.map (Value.int .i64)).drop k, u.oneCell' = true := fun u hu => by
  obtain ⟨_, _, rfl⟩ := List.mem_map.1 (List.mem_of_mem_drop hu); rfl

theorem out_len {α : Type} (l : List α) {n i : Nat} (h : l.length = n) (hi : i < n) : n - 1 = (l.take i).length + (l.drop (i + 1)).length := by
  rw [List.length_take, List.length_drop]; omega

theorem grown_drew {w w' : World} {r : Option Nat} (h : w.drew.grownBy w' r) : w.grownBy w' r := ⟨h.os, h.tape, h.output, h.size, h.block⟩

/-- What taking an entry out comes to. -/
def OutIs (w : World) (base K : Nat) (bn bb : List ByteArray) (bs : List Int) (v0 v1 v2 : Value) (i : Nat) (w' : World) : Prop :=
  ∃ u0 u1 u2, Book w' base K (bn.eraseIdx i) (bb.eraseIdx i) (bs.eraseIdx i) u0 u1 u2 ∧ Keeps (BFoot K v0 v1 v2) w w' ∧ ∀ b, BFoot K u0 u1 u2 b → BFoot K v0 v1 v2 b ∨ w.heap.size ≤ b

/-- The end of 'out': all three rows are written anew. -/
theorem out_fin {w W1 W2 W3 : World} {base K : Nat} {bn bb : List ByteArray} {bs : List Int} {v0 v1 v2 v0' v1' v2' x0 x1 x2 : Value} {i : Nat} (hb : Book w base K bn bb bs v0 v1 v2) (hi : i < bn.length)
    (hx0 : x0.ownBlock = v0.ownBlock) (hx1 : x1.ownBlock = v1.ownBlock) (hx2 : x2.ownBlock = v2.ownBlock)
    (o0 : v0'.ownBlock = x0.ownBlock ∨ v0'.ownBlock = some w.drew.heap.size) (o1 : v1'.ownBlock = x1.ownBlock ∨ v1'.ownBlock = some W1.drew.heap.size) (o2 : v2'.ownBlock = x2.ownBlock ∨ v2'.ownBlock = some W2.drew.heap.size)
    (r01 : WRow W1 base 9 v0' ((bn.map Value.string).take i ++ (bn.map Value.string).drop (i + 1))) (r0 : WRow W2 base 9 v0' ((bn.map Value.string).take i ++ (bn.map Value.string).drop (i + 1))) (r1 : WRow W2 base 9 v1' ((bb.map Value.string).take i ++ (bb.map Value.string).drop (i + 1)))
    (r2 : WRow W3 base 3 v2' ((bs.map (Value.int .i64)).take i ++ (bs.map (Value.int .i64)).drop (i + 1))) (n2 : WRow W2 base 3 v2 (bs.map (Value.int .i64)))
    (c2 : ∃ cs, W2.heap[K]? = some (.cells cs 39 (0, 0))) (c3 : W3.heap[K]? = some (.cells #[v0', v1', v2'] 39 (0, 0)))
    (k1 : Keeps (fun b => b = K ∨ v0.ownBlock = some b) w W1) (k2 : Keeps (fun b => b = K ∨ v1.ownBlock = some b) W1 W2) (k3 : Keeps (fun b => b = K ∨ v2.ownBlock = some b) W2 W3) :
    OutIs w base K bn bb bs v0 v1 v2 i W3 := by
  have hs1 := k1.size
  have hs2 := k2.size
  have e1 : W1.drew.heap.size = W1.heap.size := rfl
  have e2 : W2.drew.heap.size = W2.heap.size := rfl
  have e0 : w.drew.heap.size = w.heap.size := rfl
  rw [hx0, e0] at o0
  rw [hx1, e1] at o1
  rw [hx2, e2] at o2
  obtain ⟨cs, c2⟩ := c2
  have keep : ∀ {v : Value} {xs}, WRow W2 base 9 v xs → ∀ k, v.ownBlock = some k → W3.heap[k]? = W2.heap[k]? := fun {v xs} r k hk => k3.block k (r.lt hk).2.1 (fun e => by
    obtain ⟨cur, h⟩ := (r.lt hk).2.2
    rcases e with rfl | e
    · have h2 := congrArg elemOf (h.symm.trans c2); simp only [elemOf] at h2; cases h2
    · obtain ⟨cur', h'⟩ := (n2.lt e).2.2
      have h2 := congrArg elemOf (h.symm.trans h'); simp only [elemOf] at h2; cases h2)
  refine ⟨v0', v1', v2', ⟨c3, ?_, ?_, ?_, hb.lo, ?_, fun k a b => ?_⟩, ?_, fun b hbf => ?_⟩
  · rw [← eraseIdx_map]; exact r0.same (keep r0)
  · rw [← eraseIdx_map]; exact r1.same (keep r1)
  · rw [← eraseIdx_map]; exact r2
  · simp [List.length_eraseIdx, hb.len.1, hb.len.2]
  · rcases o0 with o0 | o0
    · rcases o1 with o1 | o1
      · exact hb.apart k (o0 ▸ a) (o1 ▸ b)
      · have := (hb.names.lt (o0 ▸ a)).2.1
        have : k = W1.heap.size := (Option.some.inj (o1.symm.trans b)).symm
        omega
    · have h0 : k = w.heap.size := (Option.some.inj (o0.symm.trans a)).symm
      rcases o1 with o1 | o1
      · have := (hb.bytes.lt (o1 ▸ b)).2.1
        omega
      · have : k = W1.heap.size := (Option.some.inj (o1.symm.trans b)).symm
        have := (r01.lt a).2.1
        omega
  · refine ((k1.mono (G := BFoot K v0 v1 v2) fun k _ h => h.elim .inl (fun h => .inr (.inl h))).trans (k2.mono fun k _ h => h.elim .inl (fun h => .inr (.inr (.inl h))))).trans (k3.mono fun k _ h => h.elim .inl (fun h => .inr (.inr (.inr h))))
  · rcases hbf with rfl | h | h | h
    · exact .inl (.inl rfl)
    · rcases o0 with o0 | o0
      · exact .inl (.inr (.inl (o0 ▸ h)))
      · exact .inr (Nat.le_of_eq (Option.some.inj (o0.symm.trans h)))
    · rcases o1 with o1 | o1
      · exact .inl (.inr (.inr (.inl (o1 ▸ h))))
      · refine .inr ?_
        have := Option.some.inj (o1.symm.trans h)
        omega
    · rcases o2 with o2 | o2
      · exact .inl (.inr (.inr (.inr (o2 ▸ h))))
      · refine .inr ?_
        have := Option.some.inj (o2.symm.trans h)
        omega

set_option maxHeartbeats 1600000 in
theorem out_is (base K : Nat) (bn bb : List ByteArray) (bs : List Int) (v0 v1 v2 : Value) (i : Nat) (w : World) (h : Book w base K bn bb bs v0 v1 v2) (hn : bn.length ≤ 100) (hi : i < bn.length) (hbase : base ≤ w.heap.size) :
    Calls Try.prog 26 #[.pointer (some ⟨K, 0, none⟩), .int .i64 i] w fun e w' => e = .returned (.tuple #[]) ∧ OutIs w base K bn bb bs v0 v1 v2 i w' := by
  obtain ⟨i9, hi9, hz9, ho9, hb9⟩ := info_parts Try.info9
  obtain ⟨i3, hi3, hz3, ho3, hb3⟩ := info_parts Try.info3
  obtain ⟨a0, c0, hv0⟩ := h.names.slice
  obtain ⟨a1, c1, hv1⟩ := h.bytes.slice
  obtain ⟨a2, c2, hv2⟩ := h.synced.slice
  subst hv0 hv1 hv2
  obtain ⟨g0, rfl⟩ := h.names.addr (by simp; omega)
  obtain ⟨g1, rfl⟩ := h.bytes.addr (by simp; have := h.len; omega)
  obtain ⟨g2, rfl⟩ := h.synced.addr (by simp; have := h.len; omega)
  have hl1 := h.len.1
  have hl2 := h.len.2
  have hc := h.cells
  have n0 := h.names
  have n1 := h.bytes
  have n2 := h.synced
  simp only [List.length_map] at hc n0 n1 n2
  rw [hl1] at hc n1
  rw [hl2] at hc n2
  have hc0 := n0.len.2
  have hc1 := n1.len.2
  have hc2 := n2.len.2
  obtain ⟨b0, s0, sb0, sc0⟩ := run_slice_back (P := Try.prog) 36 9 Try.underlying36 i9 hi9 ho9 g0 bn.length c0 i hi hc0
  obtain ⟨b1, s1, sb1, sc1⟩ := run_slice_back (P := Try.prog) 36 9 Try.underlying36 i9 hi9 ho9 g1 bn.length c1 i hi hc1
  obtain ⟨b2, s2, sb2, sc2⟩ := run_slice_back (P := Try.prog) 37 3 Try.underlying37 i3 hi3 ho3 g2 bn.length c2 i hi hc2
  have f0 := run_slice_front (P := Try.prog) 36 9 Try.underlying36 i9 hi9 (some ⟨g0, 0, none⟩) bn.length c0 i (by omega)
  have f1 := run_slice_front (P := Try.prog) 36 9 Try.underlying36 i9 hi9 (some ⟨g1, 0, none⟩) bn.length c1 i (by omega)
  have f2 := run_slice_front (P := Try.prog) 37 3 Try.underlying37 i3 hi3 (some ⟨g2, 0, none⟩) bn.length c2 i (by omega)
  have q1 : IntKind.i64.wrap ((i : Int) + 1) = (i : Int) + 1 := IntWalk.i64_in _ (by omega)
  have k0 : w.cell? ⟨K, 0, none⟩ = some (.slice (some ⟨g0, 0, none⟩) bn.length c0) := by simp [World.cell?, hc]
  have HC := Lib.hid hc
  have N0 := Lib.hid n0
  have N1 := Lib.hid n1
  have N2 := Lib.hid n2
  have SC0 := Lib.hid sc0
  have SC1 := Lib.hid sc1
  have SC2 := Lib.hid sc2
  have HB := Lib.hid h
  have HL1 := Lib.hid hl1
  have HL2 := Lib.hid hl2
  have E1 : g1 ≠ K := fun e => by
    obtain ⟨cur, h⟩ := (N1.out.lt (k := g1) rfl).2.2
    rw [e, HC.out] at h
    have h2 := congrArg elemOf h
    simp only [elemOf] at h2
    cases h2
  have E2 : g2 ≠ K := fun e => by
    obtain ⟨cur, h⟩ := (N2.out.lt (k := g2) rfl).2.2
    rw [e, HC.out] at h
    have h2 := congrArg elemOf h
    simp only [elemOf] at h2
    cases h2
  have A01 : Hid ((Value.slice (some ⟨g0, 0, none⟩) bn.length c0).ownBlock ≠ some g1) := fun e => HB.out.apart g0 rfl (by simpa [Value.ownBlock] using e.symm)
  have A02 : Hid ((Value.slice (some ⟨g0, 0, none⟩) bn.length c0).ownBlock ≠ some g2) := fun e => by
    have e' : g0 = g2 := by simpa [Value.ownBlock] using e
    obtain ⟨cur, h⟩ := (N0.out.lt (k := g0) rfl).2.2
    obtain ⟨cur', h'⟩ := (N2.out.lt (k := g2) rfl).2.2
    rw [e', h'] at h
    have h2 := congrArg elemOf h
    simp only [elemOf] at h2
    cases h2
  have A12 : Hid ((Value.slice (some ⟨g1, 0, none⟩) bn.length c1).ownBlock ≠ some g2) := fun e => by
    have e' : g1 = g2 := by simpa [Value.ownBlock] using e
    obtain ⟨cur, h⟩ := (N1.out.lt (k := g1) rfl).2.2
    obtain ⟨cur', h'⟩ := (N2.out.lt (k := g2) rfl).2.2
    rw [e', h'] at h
    have h2 := congrArg elemOf h
    simp only [elemOf] at h2
    cases h2
  clear hc n0 n1 n2 sc0 sc1 sc2 h sb0 sb1 sb2 hl1 hl2
  go_enter Try.func26, Try.ntmps26
  go_wp2_with fail
  go_region_law ((refine step_append_w _ rfl _ _ 36 rfl base 9 i9 (.string ByteArray.empty) 16 Try.underlying36 hi9 hz9 ho9 hb9 rfl (.slice (some ⟨g0, 0, none⟩) i i) ((bn.map Value.string).take i) (by simp [Act.eval, Act.put]) (show WRow w.drew base 9 _ _ from N0.out.front (by rw [List.length_map]; omega)) (.slice (some b0) (bn.length - (i + 1)) (c0 - (i + 1))) ((bn.map Value.string).drop (i + 1)) (by simp [Act.eval, Act.put]) (show Cells w.drew _ _ from cells_back N0.out SC0.out) (one_str _ _) (by rw [List.length_take, List.length_drop, List.length_map]; omega) (by rw [List.length_take, List.length_drop, List.length_map]; omega) hbase (bn.length - 1) (out_len _ (List.length_map _) hi) ?_; intro a0' c0' w2 hr hg hl; have R0 := Lib.hid hr; have G0 := Lib.hid (grown_drew hg); have L0 := Lib.hid hl; have kk0 : w2.cell? ⟨K, 0, none⟩ = some (.slice (some ⟨g0, 0, none⟩) bn.length c0) := (by simp [World.cell?, (field_fin (j := 0) HC.out N0.out (by decide) G0.out R0.out).1]); have zz0 : w2.frozen? ⟨K, 0, none⟩ = false := (by simp [World.frozen?, (field_fin (j := 0) HC.out N0.out (by decide) G0.out R0.out).1]); clear hr hg hl))
  all_goals
    go_wp2_with fail
    obtain ⟨_, hc1, hr1, hk1⟩ := field_fin (j := 0) HC.out N0.out (by decide) G0.out R0.out
    have hb1' : base ≤ (w2.setCell ⟨K, 0, none⟩ (.slice a0' (bn.length - 1) c0')).heap.size := Nat.le_trans hbase hk1.size
    have m1 : (w2.setCell ⟨K, 0, none⟩ (.slice a0' (bn.length - 1) c0')).heap[g1]? = w.heap[g1]? := hk1.block g1 (N1.out.lt rfl).2.1 (fun e => e.elim E1 (fun e => A01.out e))
    have m2 : (w2.setCell ⟨K, 0, none⟩ (.slice a0' (bn.length - 1) c0')).heap[g2]? = w.heap[g2]? := hk1.block g2 (N2.out.lt rfl).2.1 (fun e => e.elim E2 (fun e => A02.out e))
    obtain ⟨W1, hW1⟩ : ∃ W1, W1 = w2.setCell ⟨K, 0, none⟩ (.slice a0' (bn.length - 1) c0') := ⟨_, rfl⟩
    rw [← hW1] at hc1 hr1 hk1 hb1' m1 m2
    have HC1 : Hid (W1.heap[K]? = some (.cells #[.slice a0' (bn.length - 1) c0', .slice (some ⟨g1, 0, none⟩) bn.length c1, .slice (some ⟨g2, 0, none⟩) bn.length c2] 39 (0, 0))) := hc1.trans (by simp)
    have kk : W1.cell? ⟨K, 1, none⟩ = some (.slice (some ⟨g1, 0, none⟩) bn.length c1) := by simp [World.cell?, HC1.out]
    have HR1 := Lib.hid hr1
    have HK1 := Lib.hid hk1
    have N1' := Lib.hid (N1.out.same (w' := W1) (fun k hk => by cases hk; exact m1))
    have N2' := Lib.hid (N2.out.same (w' := W1) (fun k hk => by cases hk; exact m2))
    clear hc1 hr1 hk1 m1 m2 kk0 zz0 k0
    rw [← hW1]
    clear hW1
    go_region_law ((refine step_append_w _ rfl _ _ 36 rfl base 9 i9 (.string ByteArray.empty) 16 Try.underlying36 hi9 hz9 ho9 hb9 rfl (.slice (some ⟨g1, 0, none⟩) i i) ((bb.map Value.string).take i) (by simp [Act.eval, Act.put]) (show WRow W1.drew base 9 _ _ from N1'.out.front (by rw [List.length_map]; have := HL1.out; omega)) (.slice (some b1) (bn.length - (i + 1)) (c1 - (i + 1))) ((bb.map Value.string).drop (i + 1)) (by simp [Act.eval, Act.put]) (show Cells W1.drew _ _ from cells_back N1'.out SC1.out) (one_str _ _) (by rw [List.length_take, List.length_drop, List.length_map]; have := HL1.out; omega) (by rw [List.length_take, List.length_drop, List.length_map]; have := HL1.out; omega) hb1' (bn.length - 1) (out_len _ (by rw [List.length_map]; have := HL1.out; omega) hi) ?_; intro a1' c1' w3 hr hg hl; have R1 := Lib.hid hr; have G1 := Lib.hid (grown_drew hg); have L1 := Lib.hid hl; have kk1 : w3.cell? ⟨K, 1, none⟩ = some (.slice (some ⟨g1, 0, none⟩) bn.length c1) := (by simp [World.cell?, (field_fin (j := 1) HC1.out N1'.out (by decide) G1.out R1.out).1]); have zz1 : w3.frozen? ⟨K, 1, none⟩ = false := (by simp [World.frozen?, (field_fin (j := 1) HC1.out N1'.out (by decide) G1.out R1.out).1]); clear hr hg hl))
    all_goals
      go_wp2_with fail
      obtain ⟨_, hc2', hr2, hk2⟩ := field_fin (j := 1) HC1.out N1'.out (by decide) G1.out R1.out
      have hb2' : base ≤ (w3.setCell ⟨K, 1, none⟩ (.slice a1' (bn.length - 1) c1')).heap.size := Nat.le_trans hb1' hk2.size
      have m0 : ∀ k, (Value.slice a0' (bn.length - 1) c0').ownBlock = some k → (w3.setCell ⟨K, 1, none⟩ (.slice a1' (bn.length - 1) c1')).heap[k]? = W1.heap[k]? := fun k hk => hk2.block k (HR1.out.lt hk).2.1 (fun e => e.elim (fun e => by
        obtain ⟨cur, h⟩ := (HR1.out.lt hk).2.2
        rw [e, HC1.out] at h
        have h2 := congrArg elemOf h
        simp only [elemOf] at h2
        cases h2) (fun e => by
        have e' : g1 = k := by simpa [Value.ownBlock] using e
        have hlt := (N1.out.lt (k := g1) rfl).2.1
        rcases L0.out with h | h
        · rw [h] at hk; exact A01.out (by rw [e']; exact hk)
        · rw [h] at hk; have : w.drew.heap.size = k := by simpa using hk
          have : w.drew.heap.size = w.heap.size := rfl
          omega))
      have m2 : (w3.setCell ⟨K, 1, none⟩ (.slice a1' (bn.length - 1) c1')).heap[g2]? = W1.heap[g2]? := hk2.block g2 (N2'.out.lt rfl).2.1 (fun e => e.elim E2 (fun e => A12.out e))
      obtain ⟨W2, hW2⟩ : ∃ W2, W2 = w3.setCell ⟨K, 1, none⟩ (.slice a1' (bn.length - 1) c1') := ⟨_, rfl⟩
      rw [← hW2] at hc2' hr2 hk2 hb2' m0 m2
      have HC2 : Hid (W2.heap[K]? = some (.cells #[.slice a0' (bn.length - 1) c0', .slice a1' (bn.length - 1) c1', .slice (some ⟨g2, 0, none⟩) bn.length c2] 39 (0, 0))) := hc2'.trans (by simp)
      have kk : W2.cell? ⟨K, 2, none⟩ = some (.slice (some ⟨g2, 0, none⟩) bn.length c2) := by simp [World.cell?, HC2.out]
      have HR2 := Lib.hid hr2
      have HK2 := Lib.hid hk2
      have HR1' := Lib.hid (HR1.out.same m0)
      have N2'' := Lib.hid (N2'.out.same (w' := W2) (fun k hk => by cases hk; exact m2))
      clear hc2' hr2 hk2 m0 m2 kk1 zz1
      rw [← hW2]
      clear hW2
      go_region_law ((refine step_append_w _ rfl _ _ 37 rfl base 3 i3 (.int .i64 0) 8 Try.underlying37 hi3 hz3 ho3 hb3 rfl (.slice (some ⟨g2, 0, none⟩) i i) ((bs.map (Value.int .i64)).take i) (by simp [Act.eval, Act.put]) (show WRow W2.drew base 3 _ _ from N2''.out.front (by rw [List.length_map]; have := HL2.out; omega)) (.slice (some b2) (bn.length - (i + 1)) (c2 - (i + 1))) ((bs.map (Value.int .i64)).drop (i + 1)) (by simp [Act.eval, Act.put]) (show Cells W2.drew _ _ from cells_back N2''.out SC2.out) (one_int _ _) (by rw [List.length_take, List.length_drop, List.length_map]; have := HL2.out; omega) (by rw [List.length_take, List.length_drop, List.length_map]; have := HL2.out; omega) hb2' (bn.length - 1) (out_len _ (by rw [List.length_map]; have := HL2.out; omega) hi) ?_; intro a2' c2' w4 hr hg hl; have R2 := Lib.hid hr; have G2 := Lib.hid (grown_drew hg); have L2 := Lib.hid hl; have kk2 : w4.cell? ⟨K, 2, none⟩ = some (.slice (some ⟨g2, 0, none⟩) bn.length c2) := (by simp [World.cell?, (field_fin (j := 2) HC2.out N2''.out (by decide) G2.out R2.out).1]); have zz2 : w4.frozen? ⟨K, 2, none⟩ = false := (by simp [World.frozen?, (field_fin (j := 2) HC2.out N2''.out (by decide) G2.out R2.out).1]); clear hr hg hl))
      all_goals
        go_wp2_with fail
        obtain ⟨_, hc3', hr3, hk3⟩ := field_fin (j := 2) HC2.out N2''.out (by decide) G2.out R2.out
        go_end0
        exact ⟨rfl, out_fin HB.out hi rfl rfl rfl L0.out L1.out L2.out HR1.out HR1'.out HR2.out hr3 (by rw [List.length_map, HL2.out]; exact N2''.out) ⟨_, HC2.out⟩ (hc3'.trans (by simp)) HK1.out HK2.out hk3⟩

end Go.Proofs.Ytigbodokmkpohaa
