/- DeleteFunc. -/
import Derived.Test.YtcbgnikbaepkaaaU
import Derived.Lib.SliceRun
namespace Go.Proofs.Ytcbgnikbaepkaaa
open Go.Shelf Go.RowKit Go.Lib Go.Sort Go.Proofs

/-- The cells of n rows of 0. -/
def zeroRows (n : Nat) : List Value := (Builtin.zeroCells (Value.agg #[.int .i64 0, .slice none 0 0, .slice none 0 0, .int .u64 0]).cells n).toList

theorem zeroRows_length (n : Nat) : (zeroRows n).length = n * 4 := by simp only [zeroRows, Array.length_toList, size_zeroCells]; rfl
theorem zeroRows_one (n : Nat) : ∀ v ∈ zeroRows n, v.oneCell' = true := by
  intro v hv
  have h : ∀ v ∈ (Value.agg #[.int .i64 0, .slice none 0 0, .slice none 0 0, .int .u64 0]).cells, v.oneCell' = true := by decide
  have h4 : 0 < (Value.agg #[.int .i64 0, .slice none 0 0, .slice none 0 0, .int .u64 0]).cells.size := by decide
  unfold zeroRows at hv
  generalize (Value.agg #[.int .i64 0, .slice none 0 0, .slice none 0 0, .int .u64 0]).cells = Z at h h4 hv
  unfold Builtin.zeroCells at hv
  simp only [Array.toList_map, List.mem_map] at hv
  obtain ⟨i, _, rfl⟩ := hv
  have hi : i % Z.size < Z.size := Nat.mod_lt _ h4
  rw [getElem!_pos Z (i % Z.size) hi]
  exact h _ (Array.getElem_mem hi)

theorem run_clear_rows (w : World) (ty : TypeId) (g o n c : Nat) (hc : ∀ j, j < (n + 1) * 4 → (w.cell? ⟨g, o + j, none⟩).isSome = true) (hf : ∀ j, j < (n + 1) * 4 → w.frozen? ⟨g, o + j, none⟩ = false) :
    (Builtin.clear_ #[36] ty #[.slice (some ⟨g, o, none⟩) (n + 1) c]).run Try.prog w = .ok (.tuple #[]) (w.setCells g o (zeroRows (n + 1))) := by
  have hst := run_storeCells_cells (P := Try.prog) g o (zeroRows (n + 1)) 0 w (by rw [zeroRows_length]; simpa using hc) (by rw [zeroRows_length]; simpa using hf) (zeroRows_one _)
  simp only [Nat.add_zero] at hst
  have hv : ∀ w, (zeroValue 40).run Try.prog w = .ok (.agg #[.int .i64 0, .slice none 0 0, .slice none 0 0, .int .u64 0]) w := fun w => by kernel_rfl
  simp [Builtin.clear_, run_underlying Try.underlying36, hv]
  change ((storeCells { block := g, off := o } (zeroRows (n + 1))).run Try.prog w).andThen _ = _
  rw [hst]
  rfl

/-- The state of striking: j rows seen, the first i are those that stay. -/
def Struck (w : World) (base g c : Nat) (l : List Ro) (i j : Nat) (wr : World) : Prop :=
  ∃ now : List Ro, OwnRows wr base (.slice (some ⟨g, 0, none⟩) l.length c) now ∧ now.length = l.length ∧ i ≤ j ∧ j ≤ l.length ∧ now.drop j = l.drop j ∧ now.take i = (l.take j).filter nz ∧ Moved g w wr

theorem drop_get {α : Type} {a b : List α} {k : Nat} {x : α} (h : a.drop k = b.drop k) (hx : b[k]? = some x) : a[k]? = some x := by
  have := congrArg (fun l => l[0]?) h
  simpa [List.getElem?_drop, hx] using this

theorem drop_succ {α : Type} {a b : List α} {k : Nat} (h : a.drop k = b.drop k) : a.drop (k + 1) = b.drop (k + 1) := by
  have := congrArg (fun l => l.drop 1) h
  simpa [List.drop_drop] using this

theorem take_filter_nz {l : List Ro} {k : Nat} {x : Ro} (hx : l[k]? = some x) : (l.take (k + 1)).filter nz = (l.take k).filter nz ++ if nz x = true then [x] else [] := by
  obtain ⟨h, rfl⟩ := List.getElem?_eq_some_iff.1 hx
  rw [List.take_succ_eq_append_getElem h, List.filter_append]
  congr 1
  by_cases hp : nz l[k] = true
  · rw [if_pos hp]; simp [hp]
  · rw [if_neg hp]; simp [hp]

theorem OwnRows.moved {g : Nat} {w w' : World} {base : Nat} {v : Value} {l : List Ro} (h : OwnRows w base v l) (hm : Moved g w w') (hg : v.ownBlock ≠ some g) : OwnRows w' base v l :=
  h.same fun k hk => hm.block k (h.lt hk).2 (fun e => hg (by rw [hk, e]))

theorem Struck.skip {w wr w2 : World} {base g c i j : Nat} {l : List Ro} {x : Ro} (h : Struck w base g c l i j wr) (hx : l[j]? = some x) (hz : nz x = false) (hg : Grows wr w2) : Struck w base g c l i (j + 1) w2 := by
  obtain ⟨now, h1, h2, h3, h4, h5, h6, h7⟩ := h
  exact ⟨now, h1.grows hg, h2, by omega, (List.getElem?_eq_some_iff.1 hx).1, drop_succ h5, by rw [take_filter_nz hx, hz]; simpa using h6, h7.trans (hg.kept.moved g)⟩

theorem Struck.store {w wr w2 : World} {base g c i j : Nat} {l : List Ro} {x : Ro} (h : Struck w base g c l i j wr) (hx : l[j]? = some x) (hz : nz x = true) (hg : Grows wr w2) (hij : i < j) :
    Struck w base g c l (i + 1) (j + 1) ((((w2.setCell ⟨g, i * 4, none⟩ (.int .i64 x.f.time)).setCell ⟨g, i * 4 + 1, none⟩ x.d).setCell ⟨g, i * 4 + 2, none⟩ x.m).setCell ⟨g, i * 4 + 3, none⟩ (.int .u64 x.n)) := by
  obtain ⟨now, h1, h2, h3, h4, h5, h6, h7⟩ := h
  have hj := (List.getElem?_eq_some_iff.1 hx).1
  have hi : i < now.length := by omega
  have hs := (h1.grows hg).set hi x
  refine ⟨now.set i x, hs, by simpa using h2, by omega, hj, ?_, ?_, (h7.trans (hg.kept.moved g)).trans (moved_set4 g (i * 4) w2 _ _ _ _)⟩
  · rw [List.drop_set, if_pos (by omega)]
    exact drop_succ h5
  · rw [take_filter_nz hx, if_pos hz, ← h6, List.take_succ_eq_append_getElem (by simpa using hi)]
    simp [List.take_set_of_le]

theorem Struck.row {w wr : World} {base g c i j : Nat} {l : List Ro} {x : Ro} (h : Struck w base g c l i j wr) (hx : l[j]? = some x) :
    (wr.cell? ⟨g, j * 4, none⟩ = some (.int .i64 x.f.time) ∧ wr.cell? ⟨g, j * 4 + 1, none⟩ = some (.slice x.da x.dn x.dc) ∧ wr.cell? ⟨g, j * 4 + 2, none⟩ = some (.slice x.ma x.mn x.mc) ∧ wr.cell? ⟨g, j * 4 + 3, none⟩ = some (.int .u64 x.n)) := by
  obtain ⟨now, h1, h2, h3, h4, h5, h6, h7⟩ := h
  exact (h1.cells (drop_get h5 hx)).1

/-- What may be written over. -/
theorem OwnRows.there {w : World} {base g n c : Nat} {l : List Ro} (h : OwnRows w base (.slice (some ⟨g, 0, none⟩) n c) l) {i : Nat} (hi : i < l.length) :
    ∃ z : Ro, (w.cell? ⟨g, i * 4, none⟩ = some (.int .i64 z.f.time) ∧ w.cell? ⟨g, i * 4 + 1, none⟩ = some (.slice z.da z.dn z.dc) ∧ w.cell? ⟨g, i * 4 + 2, none⟩ = some (.slice z.ma z.mn z.mc) ∧ w.cell? ⟨g, i * 4 + 3, none⟩ = some (.int .u64 z.n)) ∧
    w.frozen? ⟨g, i * 4, none⟩ = false ∧ w.frozen? ⟨g, i * 4 + 1, none⟩ = false ∧ w.frozen? ⟨g, i * 4 + 2, none⟩ = false ∧ w.frozen? ⟨g, i * 4 + 3, none⟩ = false := by
  obtain ⟨hc, hf⟩ := h.cells (List.getElem?_eq_getElem hi)
  exact ⟨l[i], hc, hf _, hf _, hf _, hf _⟩

end Go.Proofs.Ytcbgnikbaepkaaa
