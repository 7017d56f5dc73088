/- A row whose block may be longer than its capacity: read, written, appended to. No program. -/
import Derived.Test.YtcbgnikbaepkaaaI
import Derived.Deep.RegionLaw
import Derived.Maps.AppendAt
import Derived.Laws.AppendOwnNone
namespace Go.Proofs.Ytcbgnikbaepkaaa
open Go.RowKit

theorem heap_setCell_at {w : World} {D i : Nat} {c : Array Value} {e : TypeId} {z : Nat × Nat} (h : w.heap[D]? = some (.cells c e z)) (v : Value) :
    (w.setCell ⟨D, i, none⟩ v).heap[D]? = some (.cells (c.setIfInBounds i v) e z) := by
  simp [World.setCell, Array.getElem?_modify, h]

/-- v is nil, or a slice at the head of a block of the program's own; its elements, of one cell each, are xs. -/
def WRow (w : World) (base e : Nat) (v : Value) (xs : List Value) : Prop :=
  (v = .slice none 0 0 ∧ xs = []) ∨ ∃ g cap cur, v = .slice (some ⟨g, 0, none⟩) xs.length cap ∧ base ≤ g ∧ w.heap[g]? = some (.cells cur e (0, 0)) ∧ xs.length ≤ cap ∧ cap ≤ cur.size ∧ cap ≤ maxLen ∧ cur.toList.take xs.length = xs

theorem WRow.lt {w : World} {base e : Nat} {v : Value} {xs : List Value} (h : WRow w base e v xs) {k : Nat} (hk : v.ownBlock = some k) : base ≤ k ∧ k < w.heap.size ∧ ∃ cur, w.heap[k]? = some (.cells cur e (0, 0)) := by
  rcases h with ⟨rfl, _⟩ | ⟨g, cap, cur, rfl, h1, h2, _⟩
  · cases hk
  · cases hk; exact ⟨h1, (Array.getElem?_eq_some_iff.1 h2).1, cur, h2⟩

theorem WRow.same {w w' : World} {base e : Nat} {v : Value} {xs : List Value} (h : WRow w base e v xs) (hb : ∀ k, v.ownBlock = some k → w'.heap[k]? = w.heap[k]?) : WRow w' base e v xs := by
  rcases h with h | ⟨g, cap, cur, rfl, h1, h2, r⟩
  · exact .inl h
  · exact .inr ⟨g, cap, cur, rfl, h1, (hb g rfl).trans h2, r⟩

theorem WRow.cellAt {w : World} {base e g n c : Nat} {xs : List Value} (h : WRow w base e (.slice (some ⟨g, 0, none⟩) n c) xs) {j : Nat} (hj : j < xs.length) : w.cell? ⟨g, j, none⟩ = some xs[j] ∧ w.frozen? ⟨g, j, none⟩ = false := by
  rcases h with ⟨h, _⟩ | ⟨g', cap, cur, h, h1, h2, h3, h4, h5, h6⟩
  · cases h
  · cases h
    have hc : cur.toList[j]? = some xs[j] := by
      have := congrArg (fun l => l[j]?) h6
      simp only [List.getElem?_take, if_pos hj, List.getElem?_eq_getElem hj] at this
      exact this
    refine ⟨?_, by simp [World.frozen?, h2]⟩
    simp only [World.cell?, h2]
    simpa using hc

theorem WRow.len {w : World} {base e n c : Nat} {a : Option Addr} {xs : List Value} (h : WRow w base e (.slice a n c) xs) : xs.length = n ∧ n ≤ c := by
  rcases h with ⟨h, hx⟩ | ⟨g, cap, cur, h, _, _, h3, _⟩
  · cases h; subst hx; exact ⟨rfl, Nat.le_refl _⟩
  · cases h; exact ⟨rfl, h3⟩

theorem WRow.slice {w : World} {base e : Nat} {v : Value} {xs : List Value} (h : WRow w base e v xs) : ∃ a c, v = .slice a xs.length c := by
  rcases h with ⟨h, hx⟩ | ⟨g, cap, cur, h, _⟩
  · subst hx; exact ⟨none, 0, h⟩
  · exact ⟨_, _, h⟩

theorem WRow.addr {w : World} {base e n c : Nat} {a : Option Addr} {xs : List Value} (h : WRow w base e (.slice a n c) xs) (hn : 0 < xs.length) : ∃ g, a = some ⟨g, 0, none⟩ := by
  rcases h with ⟨h, hx⟩ | ⟨g, cap, cur, h, _⟩
  · subst hx; simp at hn
  · cases h; exact ⟨g, rfl⟩

theorem WRow.nil (w : World) (base e : Nat) : WRow w base e (.slice none 0 0) [] := .inl ⟨rfl, rfl⟩

/-- One element is written over. -/
theorem WRow.stored {w : World} {base e g n c : Nat} {xs : List Value} (h : WRow w base e (.slice (some ⟨g, 0, none⟩) n c) xs) (j : Nat) (u : Value) : WRow (w.setCell ⟨g, j, none⟩ u) base e (.slice (some ⟨g, 0, none⟩) n c) (xs.set j u) := by
  rcases h with ⟨h, _⟩ | ⟨g', cap, cur, h, h1, h2, h3, h4, h5, h6⟩
  · cases h
  · cases h
    refine .inr ⟨g, c, cur.setIfInBounds j u, by simp, h1, heap_setCell_at h2 u, by simpa using h3, by simpa using h4, h5, ?_⟩
    rw [Array.toList_setIfInBounds, List.length_set, List.take_set, h6]

/-- Its front. -/
theorem WRow.front {w : World} {base e n c : Nat} {a : Option Addr} {xs : List Value} (h : WRow w base e (.slice a n c) xs) {k : Nat} (hk : k ≤ xs.length) : WRow w base e (.slice a k k) (xs.take k) := by
  rcases h with ⟨h, hx⟩ | ⟨g, cap, cur, h, h1, h2, h3, h4, h5, h6⟩
  · cases h; subst hx
    obtain rfl : k = 0 := by simpa using hk
    exact .inl ⟨rfl, rfl⟩
  · cases h
    have hl : (xs.take k).length = k := by rw [List.length_take]; omega
    refine .inr ⟨g, k, cur, by rw [hl], h1, h2, by omega, by omega, by omega, ?_⟩
    rw [hl, ← h6, List.take_take]
    congr 1
    omega

section
variable {P : Program} (w : World)

theorem run_append_w (base t ty e : Nat) (i : TypeInfo) (z : Value) (bytes : Nat) (ht : P.underlying t = some (.slice e)) (hi : P.info? e = some i) (hz : i.zero = some z) (hsize : i.size = 1) (hby : i.bytes = bytes) (hzs : z.cells.size = 1)
    (v : Value) (xs : List Value) (hown : WRow w base e v xs) (x : Value) (news : List Value) (hx : Cells w x news) (h1 : ∀ u ∈ news, u.oneCell' = true) (hb : (xs.length + news.length) * bytes ≤ 140737488355328) (h63 : xs.length + news.length ≤ 140737488355328) (hbase : base ≤ w.heap.size) :
    ∃ a' c' w', (Builtin.append_ #[t, t] ty #[v, x]).run P w = .ok (.slice a' (xs.length + news.length) c') w' ∧ WRow w' base e (.slice a' (xs.length + news.length) c') (xs ++ news) ∧ w.grownBy w' v.ownBlock ∧
      ((Value.slice a' (xs.length + news.length) c').ownBlock = v.ownBlock ∨ (Value.slice a' (xs.length + news.length) c').ownBlock = some w.heap.size) := by
  have hlen : (xs ++ news).length = xs.length + news.length := List.length_append
  rcases hx with ⟨rfl, rfl⟩ | ⟨a, c, rfl, hc⟩
  · have hrun : (Builtin.append_ #[t, t] ty #[v, .slice none 0 0]).run P w = .ok v w := by
      rcases hown with ⟨rfl, _⟩ | ⟨g, cap, cur, rfl, _, _, hnc, _⟩
      · simp [Builtin.append_, run_underlying ht, sizeOf, typeInfo, hi, Builtin.lenOf, Builtin.firstCells]
      · simp [Builtin.append_, run_underlying ht, sizeOf, typeInfo, hi, Builtin.lenOf, Builtin.firstCells, hnc, storeCells]
    obtain ⟨a', c', hv⟩ := hown.slice
    simp only [List.length_nil, Nat.add_zero, List.append_nil]
    rw [hv] at hrun hown ⊢
    exact ⟨a', c', w, hrun, hown, ⟨rfl, rfl, rfl, Nat.le_refl _, fun _ _ _ => rfl⟩, .inl rfl⟩
  · have grown : ∀ (old : Nat), old < xs.length + news.length → ∀ (row : Option Nat),
        WRow (w.drew.alloc (.cells (xs.toArray ++ news.toArray ++ Builtin.zeroCells z.cells (grownCap w (xs.length + news.length) old e - (xs.length + news.length))) e)) base e
          (.slice (some ⟨w.heap.size, 0, none⟩) (xs.length + news.length) (grownCap w (xs.length + news.length) old e)) (xs ++ news) ∧
        w.grownBy (w.drew.alloc (.cells (xs.toArray ++ news.toArray ++ Builtin.zeroCells z.cells (grownCap w (xs.length + news.length) old e - (xs.length + news.length))) e)) row := by
      intro old ho row
      have hge := grownCap_ge w (xs.length + news.length) old e
      have hcm : grownCap w (xs.length + news.length) old e ≤ maxLen := grownCap_le_maxLen w (xs.length + news.length) old e (by unfold maxLen; omega)
      refine ⟨.inr ⟨w.heap.size, _, _, by rw [hlen], hbase, heap_alloc_new w.drew _, by rw [hlen]; exact hge, ?_, hcm, ?_⟩, ⟨rfl, rfl, rfl, by simp, fun k hk _ => Below.heap_alloc w.drew _ k hk⟩⟩
      · simp only [Array.size_append, List.size_toArray, size_zeroCells, hzs]
        omega
      · simp only [Array.toList_append, List.append_assoc]
        rw [← List.append_assoc]
        exact List.take_left
    rcases hown with ⟨rfl, rfl⟩ | ⟨g, cap, cur, rfl, hbg, hg, hnc, hcs, hcm, htake⟩
    · by_cases hm : news.length = 0
      · have hn : news = [] := List.eq_nil_of_length_eq_zero hm
        subst hn
        refine ⟨none, 0, w, ?_, WRow.nil w base e, ⟨rfl, rfl, rfl, Nat.le_refl _, fun _ _ _ => rfl⟩, .inl rfl⟩
        simp [Builtin.append_, run_underlying ht, sizeOf, typeInfo, hi, Builtin.lenOf, Builtin.firstCells, loadCells, loadCellsFrom]
      · have hr := run_append_nil (P := P) w t ty e i z ht hi hz a news.length c news (by rw [hsize]; omega) hc (by omega) (by omega) (by rw [hby]; simp only [List.length_nil, Nat.zero_add] at hb; omega)
        have hgr := grown 0 (by simp; omega) (Value.ownBlock (.slice none 0 0))
        simp only [List.length_nil, Nat.zero_add, List.nil_append, Array.empty_append] at hgr ⊢
        exact ⟨_, _, _, hr, hgr.1, hgr.2, .inr rfl⟩
    · by_cases hroom : xs.length + news.length ≤ cap
      · have hr := run_append_room (P := P) w t ty e i ht hi g xs.length cap cur hg a news.length c news (by rw [hsize]; omega) hc h1 hroom (by rw [hsize]; omega)
        refine ⟨_, _, _, hr, .inr ⟨g, cap, _, by rw [hlen], hbg, setRow_heap w g cur _ e _ hg, by rw [hlen]; exact hroom, ?_, hcm, ?_⟩, ⟨rfl, rfl, rfl, by simp, fun k _ hk => setRow_other w g k _ (fun e => hk (by simp [Value.ownBlock, e]))⟩, .inl rfl⟩
        · simp only [List.size_toArray, List.length_append, List.length_take, List.length_drop, Array.length_toList, hsize]
          omega
        · rw [hsize, Nat.mul_one, htake]
          simp only [List.append_assoc]
          rw [← List.append_assoc]
          exact List.take_left
      · have holds : ∀ j u, xs[j]? = some u → w.cell? ((⟨g, 0, none⟩ : Addr).add j) = some u := by
          intro j u hu
          have hj := (List.getElem?_eq_some_iff.1 hu).1
          have hw : WRow w base e (.slice (some ⟨g, 0, none⟩) xs.length cap) xs := .inr ⟨g, cap, cur, rfl, hbg, hg, hnc, hcs, hcm, htake⟩
          have := (hw.cellAt hj).1
          have e1 : (⟨g, 0, none⟩ : Addr).add j = ⟨g, j, none⟩ := by unfold Addr.add; split <;> simp_all
          rw [e1, this]
          rw [List.getElem?_eq_getElem hj] at hu
          exact hu
        have hr := run_append_grow (P := P) w t ty e i z ht hi hz ⟨g, 0, none⟩ xs.length cap xs (by rw [hsize]; omega) holds a news.length c news (by rw [hsize]; omega) hc (by omega) (by omega) (growslice_fits (by omega) (by rw [hby]; exact hb))
        have hgr := grown cap (by omega) (Value.ownBlock (.slice (some ⟨g, 0, none⟩) xs.length cap))
        exact ⟨_, _, _, hr, hgr.1, hgr.2, .inr rfl⟩

theorem wpList_append_w {ops : Array Oper} {rest : List Oper} {o : Oper} {a : Act} {Q : Exit → Act → World → Prop} (hgd : o.guard = none) (s x : Operand) (t : TypeId)
    (ho : o.op = Op.call { callee := Callee.builtin Builtin.append, args := #[s, x], argTypes := #[t, t] }) (base e : Nat) (i : TypeInfo) (z : Value) (bytes : Nat)
    (ht : P.underlying t = some (.slice e)) (hi : P.info? e = some i) (hz : i.zero = some z) (hsize : i.size = 1) (hby : i.bytes = bytes) (hzs : z.cells.size = 1)
    (v : Value) (xs : List Value) (hs : a.eval s = v) (hown : WRow w base e v xs) (xv : Value) (news : List Value) (hxv : a.eval x = xv) (hx : Cells w xv news) (h1 : ∀ u ∈ news, u.oneCell' = true)
    (hb : (xs.length + news.length) * bytes ≤ 140737488355328) (h63 : xs.length + news.length ≤ 140737488355328) (hbase : base ≤ w.heap.size)
    (n : Nat) (hn : n = xs.length + news.length)
    (h : ∀ (a' : Option Addr) (c' : Nat) (w' : World), WRow w' base e (.slice a' n c') (xs ++ news) → w.grownBy w' v.ownBlock →
      ((Value.slice a' n c').ownBlock = v.ownBlock ∨ (Value.slice a' n c').ownBlock = some w.heap.size) → wpList P ops Q rest (a.put o.dst (.slice a' n c')) w') :
    wpList P ops Q (o :: rest) a w := by
  refine wpList_plain hgd fun K hK => ?_
  obtain ⟨a', c', w', hrun, h1, h2, h3⟩ := run_append_w (P := P) w base t o.type e i z bytes ht hi hz hsize hby hzs v xs hown xv news hx h1 hb h63 hbase
  subst hn
  unfold Oper.wp
  simp [execOp, ho, resolve, invoke, builtin, hs, hxv, hrun, Result.andThen]
  exact hK _ _ (h a' c' w' h1 h2 h3)

/-- .. as one step of a region that draws its order. -/
theorem step_append_w {ops : Array Oper} {o : Oper} {a : Act} {K : Act → World → Prop} {Q : Exit → Act → World → Prop} {E : Prop} (hgd : o.guard = none) (s x : Operand) (t : TypeId)
    (ho : o.op = Op.call { callee := Callee.builtin Builtin.append, args := #[s, x], argTypes := #[t, t] }) (base e : Nat) (i : TypeInfo) (z : Value) (bytes : Nat)
    (ht : P.underlying t = some (.slice e)) (hi : P.info? e = some i) (hz : i.zero = some z) (hsize : i.size = 1) (hby : i.bytes = bytes) (hzs : z.cells.size = 1)
    (v : Value) (xs : List Value) (hs : a.eval s = v) (hown : WRow w base e v xs) (xv : Value) (news : List Value) (hxv : a.eval x = xv) (hx : Cells w xv news) (h1 : ∀ u ∈ news, u.oneCell' = true)
    (hb : (xs.length + news.length) * bytes ≤ 140737488355328) (h63 : xs.length + news.length ≤ 140737488355328) (hbase : base ≤ w.heap.size)
    (n : Nat) (hn : n = xs.length + news.length)
    (h : ∀ (a' : Option Addr) (c' : Nat) (w' : World), WRow w' base e (.slice a' n c') (xs ++ news) → w.grownBy w' v.ownBlock →
      ((Value.slice a' n c').ownBlock = v.ownBlock ∨ (Value.slice a' n c').ownBlock = some w.heap.size) → K (a.put o.dst (.slice a' n c')) w') :
    if Region.wanted o (yielded ops a.tmps) = true then Oper.wp P o a w K Q else E := by
  have hw : Region.wanted o (yielded ops a.tmps) = true := by simp [Region.wanted, hgd]
  rw [if_pos hw]
  obtain ⟨a', c', w', hrun, h1, h2, h3⟩ := run_append_w (P := P) w base t o.type e i z bytes ht hi hz hsize hby hzs v xs hown xv news hx h1 hb h63 hbase
  subst hn
  unfold Oper.wp
  simp [execOp, ho, resolve, invoke, builtin, hs, hxv, hrun, Result.andThen]
  exact h a' c' w' h1 h2 h3

end
end Go.Proofs.Ytcbgnikbaepkaaa
