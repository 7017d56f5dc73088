/- Rows appended one by one; the row as the sort reads it. -/
import Derived.Test.YtcbgnikbaepkaaaL
namespace Go.Proofs.Ytcbgnikbaepkaaa
open Go.Shelf Go.RowKit Go.Lib Go.Sort Go.Proofs

theorem Try.info40 : (Try.prog.info? 40).map (fun i => (i.zero, i.size, i.bytes)) = some (some (.agg #[.int .i64 0, .slice none 0 0, .slice none 0 0, .int .u64 0]), 4, 64) := by kernel_rfl

/-- The cells of rows, one row behind the other. -/
def flat (l : List Ro) : List Value := l.flatMap Ro.enc

theorem flat_length (l : List Ro) : (flat l).length = l.length * 4 := by
  induction l with
  | nil => rfl
  | cons x l ih => simp only [flat, List.flatMap_cons, List.length_append, List.length_cons] at *; rw [ih]; simp [Ro.enc]; omega

theorem flat_get (l : List Ro) (i c : Nat) (hi : i < l.length) (hc : c < 4) : (flat l)[i * 4 + c]? = (l[i].enc)[c]? := by
  induction l generalizing i with
  | nil => simp at hi
  | cons x l ih =>
    have hx : x.enc.length = 4 := rfl
    simp only [flat, List.flatMap_cons] at *
    cases i with
    | zero =>
      rw [Nat.zero_mul, Nat.zero_add, List.getElem?_append_left (by rw [hx]; exact hc)]
      rfl
    | succ i =>
      rw [List.getElem?_append_right (by rw [hx]; omega), hx, show (i + 1) * 4 + c - 4 = i * 4 + c by omega]
      exact ih i (by simpa using hi)

/-- The rows that a slice of the program's own holds. -/
def OwnRows (w : World) (base : Nat) (v : Value) (l : List Ro) : Prop := w.ownsRow base 40 4 v l.length (flat l)

theorem OwnRows.nil (w : World) (base : Nat) : OwnRows w base (.slice none 0 0) [] := ⟨rfl, .inl ⟨rfl, rfl⟩⟩

theorem OwnRows.slice {w : World} {base : Nat} {v : Value} {l : List Ro} (h : OwnRows w base v l) : ∃ a c, v = .slice a l.length c := by
  rcases h.2 with ⟨h, hn⟩ | ⟨g, cap, cur, h, _⟩
  · exact ⟨none, 0, by rw [h, hn]⟩
  · exact ⟨_, _, h⟩

theorem OwnRows.same {w w' : World} {base : Nat} {v : Value} {l : List Ro} (h : OwnRows w base v l) (hb : ∀ k, v.ownBlock = some k → w'.heap[k]? = w.heap[k]?) : OwnRows w' base v l := by
  refine ⟨h.1, ?_⟩
  rcases h.2 with h | ⟨g, cap, cur, h1, h2, h3, r⟩
  · exact .inl h
  · exact .inr ⟨g, cap, cur, h1, h2, (hb g (by rw [h1]; rfl)).trans h3, r⟩

theorem OwnRows.lt {w : World} {base : Nat} {v : Value} {l : List Ro} (h : OwnRows w base v l) {k : Nat} (hk : v.ownBlock = some k) : base ≤ k ∧ k < w.heap.size := by
  rcases h.2 with ⟨h, _⟩ | ⟨g, cap, cur, h1, h2, h3, _⟩
  · rw [h] at hk; cases hk
  · rw [h1] at hk; cases hk; exact ⟨h2, (Array.getElem?_eq_some_iff.1 h3).1⟩

/-- One row more. -/
theorem wpList_append_row {ops : Array Oper} {rest : List Oper} {o : Oper} {a : Act} {Q : Exit → Act → World → Prop} (hgd : o.guard = none) (s x : Operand)
    (ho : o.op = Op.call { callee := Callee.builtin Builtin.append, args := #[s, x], argTypes := #[36, 36] }) (U : World) (base : Nat) (v : Value) (l : List Ro) (hs : a.eval s = v) (hown : OwnRows U base v l) (u : Ro)
    (hxv : a.eval x = .slice (some ⟨U.heap.size, 0, none⟩) 1 1) (hl : l.length < 2199023255552) (hbase : base ≤ U.heap.size)
    (h : ∀ (a' : Option Addr) (c' : Nat) (w' : World), OwnRows w' base (.slice a' (l.length + 1) c') (l ++ [u]) → (U.alloc (.cells u.enc.toArray 40)).grownBy w' v.ownBlock →
      ((Value.slice a' (l.length + 1) c').ownBlock = v.ownBlock ∨ ∃ k, (Value.slice a' (l.length + 1) c').ownBlock = some k ∧ U.heap.size ≤ k) → wpList Try.prog ops Q rest (a.put o.dst (.slice a' (l.length + 1) c')) w') :
    wpList Try.prog ops Q (o :: rest) a (U.alloc (.cells u.enc.toArray 40)) := by
  obtain ⟨i0, hi, hz0, hz1, hz2⟩ := info_parts Try.info40
  refine wpList_plain hgd fun K hK => ?_
  have hown' : OwnRows (U.alloc (.cells u.enc.toArray 40)) base v l := hown.same fun k hk => Below.heap_alloc U _ _ (hown.lt hk).2
  have hnews : ∀ (j : Nat) (y : Value), u.enc[j]? = some y → (U.alloc (.cells u.enc.toArray 40)).cell? ((⟨U.heap.size, 0, none⟩ : Addr).add j) = some y := by
    intro j y hy
    have h0 := (MapKept.heap_alloc U (.cells u.enc.toArray 40)).1
    have e1 : (⟨U.heap.size, 0, none⟩ : Addr).add j = ⟨U.heap.size, j, none⟩ := by unfold Addr.add; split <;> simp_all
    rw [e1]
    simp only [World.cell?, h0]
    simpa using hy
  obtain ⟨v', w', hrun, h1, h2, _, h3⟩ := run_append_own_at (P := Try.prog) (U.alloc (.cells u.enc.toArray 40)) base 36 o.type 40 i0 _ 4 64 Try.underlying36 hi hz0 hz1 hz2 rfl (by decide) v l.length (flat l) hown' ⟨U.heap.size, 0, none⟩ 1 1 u.enc rfl hnews
    (fun y hy => by simp only [Ro.enc, List.mem_cons, List.not_mem_nil, or_false] at hy; rcases hy with rfl | rfl | rfl | rfl <;> rfl) (by unfold maxLen; omega) (by omega) (Nat.le_trans hbase (by simp))
  have hfl : flat l ++ u.enc = flat (l ++ [u]) := by simp [flat]
  rw [hfl] at h1
  have h1' : OwnRows w' base v' (l ++ [u]) := by unfold OwnRows; rw [show (l ++ [u]).length = l.length + 1 by simp]; exact h1
  obtain ⟨a', c', hv⟩ := h1'.slice
  rw [show (l ++ [u]).length = l.length + 1 by simp] at hv
  subst hv
  unfold Oper.wp
  simp [execOp, ho, resolve, invoke, builtin, hs, hxv, hrun, Result.andThen]
  exact hK _ _ (h a' c' w' h1' h2 (h3.imp id fun e => ⟨_, e, by simp⟩))

end Go.Proofs.Ytcbgnikbaepkaaa
