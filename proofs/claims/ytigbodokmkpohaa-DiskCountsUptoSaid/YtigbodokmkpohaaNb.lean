/- The book, written. -/
import Derived.Test.YtigbodokmkpohaaNa
namespace Go.Proofs.Ytigbodokmkpohaa
open Go.RowKit

structure BGood (w : World) (base K : Nat) (bn bb : List ByteArray) (bs : List Int) (v0 v1 v2 : Value) (P : ByteArray → Prop) (k : Nat) : Prop where
  is : Book w base K bn bb bs v0 v1 v2
  nodup : bn.Nodup
  mem : ∀ s, s ∈ bn ↔ P s
  len : bn.length ≤ k
  size : ∀ b ∈ bb, b.size ≤ k * 1048576

theorem Book.rows_ne {w : World} {base K : Nat} {bn bb : List ByteArray} {bs : List Int} {v0 v1 v2 : Value} (h : Book w base K bn bb bs v0 v1 v2) :
    (∀ g, v0.ownBlock = some g → g ≠ K ∧ v1.ownBlock ≠ some g ∧ v2.ownBlock ≠ some g) ∧ (∀ g, v1.ownBlock = some g → g ≠ K ∧ v0.ownBlock ≠ some g ∧ v2.ownBlock ≠ some g) ∧ (∀ g, v2.ownBlock = some g → g ≠ K ∧ v0.ownBlock ≠ some g ∧ v1.ownBlock ≠ some g) := by
  have ty : ∀ {a b : Nat} {ca cb : Array Value} {i j : Nat}, w.heap[a]? = some (.cells ca i (0, 0)) → w.heap[b]? = some (.cells cb j (0, 0)) → i ≠ j → a ≠ b := fun ha hb hij e => by
    subst e
    have h2 := congrArg elemOf (ha.symm.trans hb)
    simp only [elemOf] at h2
    exact hij h2
  refine ⟨fun g hg => ?_, fun g hg => ?_, fun g hg => ?_⟩
  · obtain ⟨_, h0⟩ := (h.names.lt hg).2.2
    exact ⟨ty h0 h.cells (by decide), h.apart g hg, fun e => by obtain ⟨_, h1⟩ := (h.synced.lt e).2.2; exact ty h0 h1 (by decide) rfl⟩
  · obtain ⟨_, h0⟩ := (h.bytes.lt hg).2.2
    exact ⟨ty h0 h.cells (by decide), fun e => h.apart g e hg, fun e => by obtain ⟨_, h1⟩ := (h.synced.lt e).2.2; exact ty h0 h1 (by decide) rfl⟩
  · obtain ⟨_, h0⟩ := (h.synced.lt hg).2.2
    exact ⟨ty h0 h.cells (by decide), fun e => by obtain ⟨_, h1⟩ := (h.names.lt e).2.2; exact ty h0 h1 (by decide) rfl, fun e => by obtain ⟨_, h1⟩ := (h.bytes.lt e).2.2; exact ty h0 h1 (by decide) rfl⟩

theorem set_map {α β : Type} (f : α → β) (l : List α) (i : Nat) (x : α) : (l.map f).set i (f x) = (l.set i x).map f := by
  rw [List.map_set]

/-- One of the book's bytes is written over. -/
theorem Book.set_bytes {w : World} {base K g n c : Nat} {bn bb : List ByteArray} {bs : List Int} {v0 v2 : Value} (h : Book w base K bn bb bs v0 (.slice (some ⟨g, 0, none⟩) n c) v2) (i : Nat) (y : ByteArray) :
    Book (w.setCell ⟨g, i, none⟩ (.string y)) base K bn (bb.set i y) bs v0 (.slice (some ⟨g, 0, none⟩) n c) v2 := by
  have ne := h.rows_ne.2.1 g rfl
  have o : ∀ b, b ≠ g → (w.setCell ⟨g, i, none⟩ (.string y)).heap[b]? = w.heap[b]? := fun b hb => Below.heap_setCell _ _ _ _ hb
  refine ⟨(o K ne.1.symm).trans h.cells, h.names.same fun k hk => o k fun e => ne.2.1 (e ▸ hk), ?_, h.synced.same fun k hk => o k fun e => ne.2.2 (e ▸ hk), h.lo, by simpa using h.len, h.apart⟩
  rw [← set_map]; exact h.bytes.stored i _

theorem Book.set_names {w : World} {base K g n c : Nat} {bn bb : List ByteArray} {bs : List Int} {v1 v2 : Value} (h : Book w base K bn bb bs (.slice (some ⟨g, 0, none⟩) n c) v1 v2) (i : Nat) (y : ByteArray) :
    Book (w.setCell ⟨g, i, none⟩ (.string y)) base K (bn.set i y) bb bs (.slice (some ⟨g, 0, none⟩) n c) v1 v2 := by
  have ne := h.rows_ne.1 g rfl
  have o : ∀ b, b ≠ g → (w.setCell ⟨g, i, none⟩ (.string y)).heap[b]? = w.heap[b]? := fun b hb => Below.heap_setCell _ _ _ _ hb
  refine ⟨(o K ne.1.symm).trans h.cells, ?_, h.bytes.same fun k hk => o k fun e => ne.2.1 (e ▸ hk), h.synced.same fun k hk => o k fun e => ne.2.2 (e ▸ hk), h.lo, by simpa using h.len, h.apart⟩
  rw [← set_map]; exact h.names.stored i _

theorem Book.set_synced {w : World} {base K g n c : Nat} {bn bb : List ByteArray} {bs : List Int} {v0 v1 : Value} (h : Book w base K bn bb bs v0 v1 (.slice (some ⟨g, 0, none⟩) n c)) (i : Nat) (y : Int) :
    Book (w.setCell ⟨g, i, none⟩ (.int .i64 y)) base K bn bb (bs.set i y) v0 v1 (.slice (some ⟨g, 0, none⟩) n c) := by
  have ne := h.rows_ne.2.2 g rfl
  have o : ∀ b, b ≠ g → (w.setCell ⟨g, i, none⟩ (.int .i64 y)).heap[b]? = w.heap[b]? := fun b hb => Below.heap_setCell _ _ _ _ hb
  refine ⟨(o K ne.1.symm).trans h.cells, h.names.same fun k hk => o k fun e => ne.2.1 (e ▸ hk), h.bytes.same fun k hk => o k fun e => ne.2.2 (e ▸ hk), ?_, h.lo, by simpa using h.len, h.apart⟩
  rw [← set_map]; exact h.synced.stored i _

/-- All three rows are written anew, each behind the last. -/
theorem push_fin {w W1 W2 W3 : World} {base K : Nat} {bn bb : List ByteArray} {bs : List Int} {v0 v1 v2 v0' v1' v2' : Value} {s : ByteArray} (hb : Book w base K bn bb bs v0 v1 v2)
    (o0 : v0'.ownBlock = v0.ownBlock ∨ ∃ k, v0'.ownBlock = some k ∧ w.heap.size ≤ k) (o1 : v1'.ownBlock = v1.ownBlock ∨ ∃ k, v1'.ownBlock = some k ∧ W1.heap.size ≤ k) (o2 : v2'.ownBlock = v2.ownBlock ∨ ∃ k, v2'.ownBlock = some k ∧ W2.heap.size ≤ k)
    (r01 : WRow W1 base 9 v0' (bn.map .string ++ [.string s])) (r0 : WRow W2 base 9 v0' (bn.map .string ++ [.string s])) (r1 : WRow W2 base 9 v1' (bb.map .string ++ [.string ⟨#[]⟩]))
    (r2 : WRow W3 base 3 v2' (bs.map (.int .i64) ++ [.int .i64 0])) (n2 : WRow W2 base 3 v2 (bs.map (Value.int .i64)))
    (c2 : ∃ cs, W2.heap[K]? = some (.cells cs 39 (0, 0))) (c3 : W3.heap[K]? = some (.cells #[v0', v1', v2'] 39 (0, 0)))
    (k1 : Keeps (fun b => b = K ∨ v0.ownBlock = some b) w W1) (k2 : Keeps (fun b => b = K ∨ v1.ownBlock = some b) W1 W2) (k3 : Keeps (fun b => b = K ∨ v2.ownBlock = some b) W2 W3) :
    Book W3 base K (bn ++ [s]) (bb ++ [⟨#[]⟩]) (bs ++ [0]) v0' v1' v2' ∧ Keeps (BFoot K v0 v1 v2) w W3 ∧ ∀ b, BFoot K v0' v1' v2' b → BFoot K v0 v1 v2 b ∨ w.heap.size ≤ b := by
  have hs1 := k1.size
  have hs2 := k2.size
  obtain ⟨cs, c2⟩ := c2
  have keep : ∀ {v : Value} {xs}, WRow W2 base 9 v xs → ∀ k, v.ownBlock = some k → W3.heap[k]? = W2.heap[k]? := fun {v xs} r k hk => k3.block k (r.lt hk).2.1 (fun e => by
    obtain ⟨cur, h⟩ := (r.lt hk).2.2
    rcases e with rfl | e
    · have h2 := congrArg elemOf (h.symm.trans c2); simp only [elemOf] at h2; cases h2
    · obtain ⟨cur', h'⟩ := (n2.lt e).2.2
      have h2 := congrArg elemOf (h.symm.trans h'); simp only [elemOf] at h2; cases h2)
  refine ⟨⟨c3, ?_, ?_, ?_, hb.lo, ?_, fun k a b => ?_⟩, ?_, fun b hbf => ?_⟩
  · rw [List.map_append]; exact r0.same (keep r0)
  · rw [List.map_append]; exact r1.same (keep r1)
  · rw [List.map_append]; exact r2
  · simp [hb.len.1, hb.len.2]
  · rcases o0 with o0 | ⟨k0, o0, h0⟩
    · rcases o1 with o1 | ⟨k1', o1, h1⟩
      · exact hb.apart k (o0 ▸ a) (o1 ▸ b)
      · have := (hb.names.lt (o0 ▸ a)).2.1
        have : k = k1' := (Option.some.inj (o1.symm.trans b)).symm
        omega
    · have e0 : k = k0 := (Option.some.inj (o0.symm.trans a)).symm
      rcases o1 with o1 | ⟨k1', o1, h1⟩
      · have := (hb.bytes.lt (o1 ▸ b)).2.1
        omega
      · have : k = k1' := (Option.some.inj (o1.symm.trans b)).symm
        have := (r01.lt a).2.1
        omega
  · refine ((k1.mono (G := BFoot K v0 v1 v2) fun k _ h => h.elim .inl (fun h => .inr (.inl h))).trans (k2.mono fun k _ h => h.elim .inl (fun h => .inr (.inr (.inl h))))).trans (k3.mono fun k _ h => h.elim .inl (fun h => .inr (.inr (.inr h))))
  · rcases hbf with rfl | h | h | h
    · exact .inl (.inl rfl)
    · rcases o0 with o0 | ⟨k0, o0, h0⟩
      · exact .inl (.inr (.inl (o0 ▸ h)))
      · exact .inr (by rw [show b = k0 from (Option.some.inj (o0.symm.trans h)).symm]; exact h0)
    · rcases o1 with o1 | ⟨k0, o1, h0⟩
      · exact .inl (.inr (.inr (.inl (o1 ▸ h))))
      · exact .inr (by rw [show b = k0 from (Option.some.inj (o1.symm.trans h)).symm]; omega)
    · rcases o2 with o2 | ⟨k0, o2, h0⟩
      · exact .inl (.inr (.inr (.inr (o2 ▸ h))))
      · exact .inr (by rw [show b = k0 from (Option.some.inj (o2.symm.trans h)).symm]; omega)

end Go.Proofs.Ytigbodokmkpohaa
