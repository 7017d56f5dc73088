/- append of bytes onto a row that the program owns: where the new row lies. A row of bytes that is read. No program. -/
import Derived.Maps.AppendAt
import Derived.Laws.AppendOwnNone
import Derived.WalkKit
namespace Go.Proofs.Ytigbodokmkpohaa
open Go.RowKit

/-- Bytes as cells. -/
def cellsOf (l : List UInt8) : List Value := l.map fun c => .int .u8 (c.toNat : Int)

theorem length_cellsOf (l : List UInt8) : (cellsOf l).length = l.length := by simp [cellsOf]
theorem cellsOf_append (a b : List UInt8) : cellsOf (a ++ b) = cellsOf a ++ cellsOf b := by simp [cellsOf]

/-- The value x is a slice that reads as the bytes l. -/
def Bytes (w : World) (x : Value) (l : List UInt8) : Prop :=
  (x = .slice none 0 0 ∧ l = []) ∨ ∃ a c, x = .slice (some a) l.length c ∧ ∀ (j : Nat) (u : Value), (cellsOf l)[j]? = some u → w.cell? (a.add j) = some u

theorem Bytes.nil (w : World) : Bytes w (.slice none 0 0) [] := .inl ⟨rfl, rfl⟩

theorem Bytes.kept {w w' : World} {x : Value} {l : List UInt8} (h : Bytes w x l) (hk : ∀ k, x.ownBlock = some k → w'.heap[k]? = w.heap[k]?) : Bytes w' x l := by
  rcases h with h | ⟨a, c, rfl, h⟩
  · exact .inl h
  · refine .inr ⟨a, c, rfl, fun j u hu => ?_⟩
    rw [← h j u hu]
    have hb : (a.add j).block = a.block := by unfold Addr.add; split <;> rfl
    exact World.cell?_of_block (by rw [hb]; exact hk a.block rfl)

theorem Bytes.of_own {w : World} {base n : Nat} {v : Value} {l : List UInt8} {e : TypeId} (h : w.ownsRow base e 1 v n (cellsOf l)) : Bytes w v l := by
  have hn : n = l.length := by have := h.1; rw [length_cellsOf] at this; omega
  subst hn
  rcases h.2 with ⟨rfl, hn⟩ | ⟨g, cap, cur, rfl, r⟩
  · exact .inl ⟨rfl, List.eq_nil_of_length_eq_zero hn⟩
  · exact .inr ⟨_, _, rfl, fun j u hu => World.ownsRow.cells (w := w) (h := h) rfl j u hu⟩

section
variable {P : Program} (w : World)

theorem run_append_bytes (base : Nat) (t ty e : TypeId) (i : TypeInfo) (z : Value) (ht : P.underlying t = some (.slice e)) (hi : P.info? e = some i) (hz : i.zero = some z)
    (hsize : i.size = 1) (hby : i.bytes = 1) (hzs : z.cells.size = 1) (v : Value) (n : Nat) (xs : List Value) (hown : w.ownsRow base e 1 v n xs)
    (x : Value) (l : List UInt8) (hx : Bytes w x l) (hb : n + l.length ≤ 140737488355328) (hbase : base ≤ w.heap.size) :
    ∃ a' c' w', (Builtin.append_ #[t, t] ty #[v, x]).run P w = .ok (.slice a' (n + l.length) c') w' ∧ w'.ownsRow base e 1 (.slice a' (n + l.length) c') (n + l.length) (xs ++ cellsOf l) ∧ w.grownBy w' v.ownBlock ∧
      ((Value.slice a' (n + l.length) c').ownBlock = v.ownBlock ∨ (Value.slice a' (n + l.length) c').ownBlock = some w.heap.size) := by
  rcases hx with ⟨rfl, rfl⟩ | ⟨a, c, rfl, hc⟩
  · have hrun := run_append_owned_none (P := P) (w := w) base t ty e i 1 ht hi v n xs hown
    have e1 : n + ([] : List UInt8).length = n := by simp
    have e2 : xs ++ cellsOf [] = xs := by simp [cellsOf]
    rw [e1, e2]
    rcases hown.2 with ⟨rfl, rfl⟩ | ⟨g, cap, cur, rfl, r⟩
    · exact ⟨none, 0, w, hrun, hown, ⟨rfl, rfl, rfl, Nat.le_refl _, fun _ _ _ => rfl⟩, .inl rfl⟩
    · exact ⟨_, _, w, hrun, hown, ⟨rfl, rfl, rfl, Nat.le_refl _, fun _ _ _ => rfl⟩, .inl rfl⟩
  · obtain ⟨v', w', hrun, h1, h2, _, h3⟩ := run_append_own_at (P := P) w base t ty e i z 1 1 ht hi hz hsize hby hzs (by omega) v n xs hown a l.length c (cellsOf l) (by rw [length_cellsOf]; omega) hc
      (fun u hu => by obtain ⟨b, _, rfl⟩ := List.mem_map.1 hu; rfl) (by unfold maxLen; omega) (by omega) hbase
    have hv : ∃ a' c', v' = .slice a' (n + l.length) c' := by
      rcases h1.2 with ⟨rfl, hn⟩ | ⟨g, cap, cur, rfl, r⟩
      · exact ⟨none, 0, by rw [hn]⟩
      · exact ⟨_, _, rfl⟩
    obtain ⟨a', c', rfl⟩ := hv
    exact ⟨a', c', w', hrun, h1, h2, h3⟩

theorem wpList_append_bytes {ops : Array Oper} {rest : List Oper} {o : Oper} {a : Act} {Q : Exit → Act → World → Prop} (hgd : o.guard = none) (s x : Operand) (t : TypeId)
    (ho : o.op = Op.call { callee := Callee.builtin Builtin.append, args := #[s, x], argTypes := #[t, t] }) (base : Nat) (e : TypeId) (i : TypeInfo) (z : Value)
    (ht : P.underlying t = some (.slice e)) (hi : P.info? e = some i) (hz : i.zero = some z) (hsize : i.size = 1) (hby : i.bytes = 1) (hzs : z.cells.size = 1)
    (v : Value) (n : Nat) (xs : List Value) (hs : a.eval s = v) (hown : w.ownsRow base e 1 v n xs) (xv : Value) (l : List UInt8) (hxv : a.eval x = xv) (hx : Bytes w xv l) (hb : n + l.length ≤ 140737488355328) (hbase : base ≤ w.heap.size)
    (h : ∀ (a' : Option Addr) (c' : Nat) (w' : World), w'.ownsRow base e 1 (.slice a' (n + l.length) c') (n + l.length) (xs ++ cellsOf l) → w.grownBy w' v.ownBlock →
      ((Value.slice a' (n + l.length) c').ownBlock = v.ownBlock ∨ (Value.slice a' (n + l.length) c').ownBlock = some w.heap.size) → wpList P ops Q rest (a.put o.dst (.slice a' (n + l.length) c')) w') :
    wpList P ops Q (o :: rest) a w := by
  refine wpList_plain hgd fun K hK => ?_
  obtain ⟨a', c', w', hrun, h1, h2, h3⟩ := run_append_bytes (P := P) w base t o.type e i z ht hi hz hsize hby hzs v n xs hown xv l hx hb hbase
  unfold Oper.wp
  simp [execOp, ho, resolve, invoke, builtin, hs, hxv, hrun, Result.andThen]
  exact hK _ _ (h a' c' w' h1 h2 h3)

/-- .. onto nil. -/
theorem wpList_append_bytes_nil {ops : Array Oper} {rest : List Oper} {o : Oper} {a : Act} {Q : Exit → Act → World → Prop} (hgd : o.guard = none) (s x : Operand) (t : TypeId)
    (ho : o.op = Op.call { callee := Callee.builtin Builtin.append, args := #[s, x], argTypes := #[t, t] }) (base : Nat) (e : TypeId) (i : TypeInfo) (z : Value)
    (ht : P.underlying t = some (.slice e)) (hi : P.info? e = some i) (hz : i.zero = some z) (hsize : i.size = 1) (hby : i.bytes = 1) (hzs : z.cells.size = 1)
    (hs : a.eval s = .slice none 0 0) (xv : Value) (l : List UInt8) (hxv : a.eval x = xv) (hx : Bytes w xv l) (hb : l.length ≤ 140737488355328) (hbase : base ≤ w.heap.size)
    (h : ∀ (a' : Option Addr) (c' : Nat) (w' : World), w'.ownsRow base e 1 (.slice a' l.length c') l.length (cellsOf l) → w.grownBy w' none →
      ((Value.slice a' l.length c').ownBlock = none ∨ (Value.slice a' l.length c').ownBlock = some w.heap.size) → wpList P ops Q rest (a.put o.dst (.slice a' l.length c')) w') :
    wpList P ops Q (o :: rest) a w :=
  wpList_append_bytes w hgd s x t ho base e i z ht hi hz hsize hby hzs (.slice none 0 0) 0 [] hs (World.ownsRow_nil _ _ _ _) xv l hxv hx (by omega) hbase
    (fun a' c' w' h1 h2 h3 => by
      rw [Nat.zero_add, List.nil_append] at h1
      rw [Nat.zero_add] at h3 ⊢
      exact h a' c' w' h1 h2 h3)

/-- .. onto a row that is empty. -/
theorem wpList_append_bytes_zero {ops : Array Oper} {rest : List Oper} {o : Oper} {a : Act} {Q : Exit → Act → World → Prop} (hgd : o.guard = none) (s x : Operand) (t : TypeId)
    (ho : o.op = Op.call { callee := Callee.builtin Builtin.append, args := #[s, x], argTypes := #[t, t] }) (base : Nat) (e : TypeId) (i : TypeInfo) (z : Value)
    (ht : P.underlying t = some (.slice e)) (hi : P.info? e = some i) (hz : i.zero = some z) (hsize : i.size = 1) (hby : i.bytes = 1) (hzs : z.cells.size = 1)
    (v : Value) (hs : a.eval s = v) (hown : w.ownsRow base e 1 v 0 []) (xv : Value) (l : List UInt8) (hxv : a.eval x = xv) (hx : Bytes w xv l) (hb : l.length ≤ 140737488355328) (hbase : base ≤ w.heap.size)
    (h : ∀ (a' : Option Addr) (c' : Nat) (w' : World), w'.ownsRow base e 1 (.slice a' l.length c') l.length (cellsOf l) → w.grownBy w' v.ownBlock →
      ((Value.slice a' l.length c').ownBlock = v.ownBlock ∨ (Value.slice a' l.length c').ownBlock = some w.heap.size) → wpList P ops Q rest (a.put o.dst (.slice a' l.length c')) w') :
    wpList P ops Q (o :: rest) a w :=
  wpList_append_bytes w hgd s x t ho base e i z ht hi hz hsize hby hzs v 0 [] hs hown xv l hxv hx (by omega) hbase
    (fun a' c' w' h1 h2 h3 => by
      rw [Nat.zero_add, List.nil_append] at h1
      rw [Nat.zero_add] at h3 ⊢
      exact h a' c' w' h1 h2 h3)

end
end Go.Proofs.Ytigbodokmkpohaa
