/- The second loop's state. No walk. -/
import Derived.Test.YtcbgnikbaepkaaaW
namespace Go.Proofs.Ytcbgnikbaepkaaa
open Go.Shelf Go.RowKit Go.Lib Go.Sort Go.Proofs

/-- The row's slices lie in blocks from B on, and not in g. -/
def Apart (B g : Nat) (y : Ro) : Prop := (∀ k, y.d.ownBlock = some k → B ≤ k ∧ k ≠ g) ∧ (∀ k, y.m.ownBlock = some k → B ≤ k ∧ k ≠ g)

theorem Ro.ok.moved {g B : Nat} {w w' : World} {y : Ro} (h : y.ok w) (hm : Moved g w w') (ha : Apart B g y) : y.ok w' :=
  FaAt.moved h hm (fun e => (ha.1 g e).2 rfl) (fun e => (ha.2 g e).2 rfl)

theorem SoftV.moved {g : Nat} {w w' : World} {v : Value} (h : SoftV w v) (hm : Moved g w w') (hg : v.ownBlock ≠ some g) : SoftV w' v := h.same fun k hk => by
  obtain ⟨cur, e, hc⟩ := h k hk
  exact hm.block k (Array.getElem?_eq_some_iff.1 hc).1 (fun e => hg (by rw [hk, e]))

/-- The row's fact lies here, and may be written. -/
def Ro.mine (w : World) (y : Ro) : Prop := y.ok w ∧ SoftV w y.d ∧ SoftV w y.m
theorem Ro.mine.kept {w w' : World} {y : Ro} (h : y.mine w) (hk : Kept w w') : y.mine w' := ⟨FaAt.kept h.1 hk, h.2.1.kept hk, h.2.2.kept hk⟩
theorem Ro.mine.moved {g B : Nat} {w w' : World} {y : Ro} (h : y.mine w) (hm : Moved g w w') (ha : Apart B g y) : y.mine w' :=
  ⟨h.1.moved hm ha, h.2.1.moved hm (fun e => (ha.1 g e).2 rfl), h.2.2.moved hm (fun e => (ha.2 g e).2 rfl)⟩

/-- Rows of 0 struck from rows that rise, equal ones added up. -/
def BagP (ps r : List (Fa × Int)) : Prop := ∃ s : List (Fa × Int), s.Perm ps ∧ (∀ i j, (hi : i < j) → (hj : j < s.length) → cmpF s[i].1 s[j].1 ≤ 0) ∧ r = (mergeP s).filter fun q => !(q.2 == 0)

/-- What bag answers: rows of its own. -/
def BagIs (w : World) (ps : List (Fa × Int)) (e : Ending) (w' : World) : Prop :=
  ∃ v l', e = .returned v ∧ OwnRows w' w.heap.size v l' ∧ BagP ps (l'.map Ro.p) ∧ (∀ y ∈ l', y.mine w' ∧ ∀ g, v.ownBlock = some g → Apart w.heap.size g y) ∧ Kept w w'

/-- The second loop's state: k rows seen, the first m hold what they come to. -/
def Half (w : World) (g c : Nat) (srt : List Ro) (k m : Nat) (wr : World) : Prop :=
  ∃ now : List Ro, OwnRows wr w.heap.size (.slice (some ⟨g, 0, none⟩) srt.length c) now ∧ now.length = srt.length ∧ m ≤ k ∧ k ≤ srt.length ∧ now.drop k = srt.drop k ∧ (now.take m).map Ro.p = mergeP ((srt.take k).map Ro.p) ∧
    (∀ y ∈ now.take m, y.mine wr ∧ Apart w.heap.size g y) ∧ Kept w wr

theorem half_start {w wr : World} {g c : Nat} {srt : List Ro} (h : OwnRows wr w.heap.size (.slice (some ⟨g, 0, none⟩) srt.length c) srt) (hk : Kept w wr) : Half w g c srt 0 0 wr :=
  ⟨srt, h, rfl, Nat.le_refl _, Nat.zero_le _, rfl, rfl, fun y hy => by simp at hy, hk⟩

theorem Half.grows {w wr w2 : World} {g c k m : Nat} {srt : List Ro} (h : Half w g c srt k m wr) (hg : Grows wr w2) : Half w g c srt k m w2 := by
  obtain ⟨now, h1, h2, h3, h4, h5, h6, h7, h8⟩ := h
  exact ⟨now, h1.grows hg, h2, h3, h4, h5, h6, fun y hy => ⟨(h7 y hy).1.kept hg.kept, (h7 y hy).2⟩, h8.trans hg.kept⟩

theorem OwnRows.kept {w w' : World} {base : Nat} {v : Value} {l : List Ro} (h : OwnRows w base v l) (hg : Kept w w') : OwnRows w' base v l := h.same fun k hk => hg.block k (h.lt hk).2

theorem Half.kept {w wr w2 : World} {g c k m : Nat} {srt : List Ro} (h : Half w g c srt k m wr) (hg : Kept wr w2) : Half w g c srt k m w2 := by
  obtain ⟨now, h1, h2, h3, h4, h5, h6, h7, h8⟩ := h
  exact ⟨now, h1.kept hg, h2, h3, h4, h5, h6, fun y hy => ⟨(h7 y hy).1.kept hg, (h7 y hy).2⟩, h8.trans hg⟩

theorem Half.row {w wr : World} {g c k m : Nat} {srt : List Ro} {x : Ro} (h : Half w g c srt k m wr) (hx : srt[k]? = some x) :
    wr.cell? ⟨g, k * 4, none⟩ = some (.int .i64 x.f.time) ∧ wr.cell? ⟨g, k * 4 + 1, none⟩ = some (.slice x.da x.dn x.dc) ∧ wr.cell? ⟨g, k * 4 + 2, none⟩ = some (.slice x.ma x.mn x.mc) ∧ wr.cell? ⟨g, k * 4 + 3, none⟩ = some (.int .u64 x.n) := by
  obtain ⟨now, h1, h2, h3, h4, h5, h6, h7, h8⟩ := h
  exact (h1.cells (drop_get h5 hx)).1

theorem Half.there {w wr : World} {g c k m : Nat} {srt : List Ro} (h : Half w g c srt k m wr) {i : Nat} (hi : i < srt.length) :
    ∃ z : Ro, (wr.cell? ⟨g, i * 4, none⟩ = some (.int .i64 z.f.time) ∧ wr.cell? ⟨g, i * 4 + 1, none⟩ = some (.slice z.da z.dn z.dc) ∧ wr.cell? ⟨g, i * 4 + 2, none⟩ = some (.slice z.ma z.mn z.mc) ∧ wr.cell? ⟨g, i * 4 + 3, none⟩ = some (.int .u64 z.n)) ∧
    wr.frozen? ⟨g, i * 4, none⟩ = false ∧ wr.frozen? ⟨g, i * 4 + 1, none⟩ = false ∧ wr.frozen? ⟨g, i * 4 + 2, none⟩ = false ∧ wr.frozen? ⟨g, i * 4 + 3, none⟩ = false := by
  obtain ⟨now, h1, h2, h3, h4, h5, h6, h7, h8⟩ := h
  exact h1.there (by omega)

theorem Half.lt {w wr : World} {g c k m : Nat} {srt : List Ro} (h : Half w g c srt k m wr) : g < wr.heap.size ∧ w.heap.size ≤ g := by
  obtain ⟨now, h1, _⟩ := h
  exact ⟨(h1.lt (k := g) rfl).2, (h1.lt (k := g) rfl).1⟩

theorem Half.frame {w wr : World} {g c k m : Nat} {srt : List Ro} (h : Half w g c srt k m wr) : Kept w wr := by
  obtain ⟨now, h1, h2, h3, h4, h5, h6, h7, h8⟩ := h
  exact h8

/-- The last row of those that are ready. -/
theorem Half.last {w wr : World} {g c k m : Nat} {srt : List Ro} (h : Half w g c srt k (m + 1) wr) :
    ∃ z : Ro, z.ok wr ∧ (wr.cell? ⟨g, m * 4, none⟩ = some (.int .i64 z.f.time) ∧ wr.cell? ⟨g, m * 4 + 1, none⟩ = some (.slice z.da z.dn z.dc) ∧ wr.cell? ⟨g, m * 4 + 2, none⟩ = some (.slice z.ma z.mn z.mc) ∧ wr.cell? ⟨g, m * 4 + 3, none⟩ = some (.int .u64 z.n)) ∧
      wr.frozen? ⟨g, m * 4 + 3, none⟩ = false ∧ ∃ acc, mergeP ((srt.take k).map Ro.p) = acc ++ [(z.f, z.n)] := by
  obtain ⟨now, h1, h2, h3, h4, h5, h6, h7, h8⟩ := h
  have hm : m < now.length := by omega
  have hx : now[m]? = some now[m] := List.getElem?_eq_getElem hm
  obtain ⟨hc, hf⟩ := h1.cells hx
  have ht := List.take_succ_eq_append_getElem hm
  refine ⟨now[m], (h7 _ (by rw [ht]; exact List.mem_append_right _ (List.mem_singleton.2 rfl))).1.1, hc, hf _, (now.take m).map Ro.p, ?_⟩
  rw [← h6, ht]
  simp only [List.map_append, List.map_cons, List.map_nil, Ro.p]

theorem take_p {srt : List Ro} {k : Nat} {x : Ro} (hx : srt[k]? = some x) : (srt.take (k + 1)).map Ro.p = (srt.take k).map Ro.p ++ [x.p] := by
  obtain ⟨h, rfl⟩ := List.getElem?_eq_some_iff.1 hx
  rw [List.take_succ_eq_append_getElem h]
  simp only [List.map_append, List.map_cons, List.map_nil]

/-- Its number grows. -/
theorem Half.same {w wr w2 : World} {g c k m : Nat} {srt : List Ro} {x z : Ro} (h : Half w g c srt k (m + 1) wr) (hx : srt[k]? = some x) (hg : Grows wr w2) {acc : List (Fa × Int)} (hacc : mergeP ((srt.take k).map Ro.p) = acc ++ [(z.f, z.n)]) (hc : cmpF z.f x.f = 0) :
    Half w g c srt (k + 1) (m + 1) (w2.setCell ⟨g, m * 4 + 3, none⟩ (.int .u64 (IntKind.u64.wrap (z.n + x.n)))) := by
  obtain ⟨now, h1, h2, h3, h4, h5, h6, h7, h8⟩ := h
  have hk := (List.getElem?_eq_some_iff.1 hx).1
  have hm : m < now.length := by omega
  have hy : now[m]? = some now[m] := List.getElem?_eq_getElem hm
  have hmv := (hg.kept.moved g).trans (moved_setCell g (m * 4 + 3) w2 (.int .u64 (IntKind.u64.wrap (z.n + x.n))))
  have hlo := (h1.lt (k := g) rfl).1
  refine ⟨now.set m { now[m] with n := IntKind.u64.wrap (z.n + x.n) }, (h1.grows hg).set_n hy _, by simpa using h2, by omega, hk, ?_, ?_, ?_, Moved.kept h8 hmv hlo⟩
  · rw [List.drop_set, if_pos (by omega)]
    exact drop_succ h5
  · rw [take_p hx, mergeP_snoc, hacc, show x.p = (x.f, x.n) from rfl, mergeStep_same hc]
    have ht := List.take_succ_eq_append_getElem hm
    rw [hacc, ht] at h6
    simp only [List.map_append, List.map_cons, List.map_nil] at h6
    obtain ⟨e1, e2⟩ := List.append_inj' h6 rfl
    have e3 : now[m].f = z.f := by
      injection e2 with e2
      exact congrArg Prod.fst e2
    rw [List.take_succ_eq_append_getElem (by simpa using hm), List.take_set_of_le (Nat.le_refl _)]
    simp only [List.map_append, List.map_cons, List.map_nil, List.getElem_set_self]
    rw [e1]
    simp only [Ro.p, e3]
  · intro y hy2
    rw [List.take_succ_eq_append_getElem (by simpa using hm), List.take_set_of_le (Nat.le_refl _), List.mem_append, List.mem_singleton] at hy2
    have ht := List.take_succ_eq_append_getElem hm
    rcases hy2 with hy2 | hy2
    · obtain ⟨a1, a2⟩ := h7 y (by rw [ht]; exact List.mem_append_left _ hy2)
      exact ⟨a1.moved hmv a2, a2⟩
    · obtain ⟨a1, a2⟩ := h7 now[m] (by rw [ht]; exact List.mem_append_right _ (List.mem_singleton.2 rfl))
      have b1 := a1.moved hmv a2
      rw [hy2, List.getElem_set_self]
      exact ⟨b1, a2⟩

/-- It stands behind. -/
theorem Half.more {w wr w2 : World} {g c k m : Nat} {srt : List Ro} {x y : Ro} (h : Half w g c srt k m wr) (hx : srt[k]? = some x) (hg : Kept wr w2) (hyf : y.f = x.f) (hyn : y.n = x.n) (hyo : y.mine w2) (hya : Apart wr.heap.size g y)
    (hc : mergeStep (mergeP ((srt.take k).map Ro.p)) x.p = mergeP ((srt.take k).map Ro.p) ++ [x.p]) :
    Half w g c srt (k + 1) (m + 1) ((((w2.setCell ⟨g, m * 4, none⟩ (.int .i64 y.f.time)).setCell ⟨g, m * 4 + 1, none⟩ y.d).setCell ⟨g, m * 4 + 2, none⟩ y.m).setCell ⟨g, m * 4 + 3, none⟩ (.int .u64 y.n)) := by
  obtain ⟨now, h1, h2, h3, h4, h5, h6, h7, h8⟩ := h
  have hk := (List.getElem?_eq_some_iff.1 hx).1
  have hm : m < now.length := by omega
  have hmv := (hg.moved g).trans (moved_set4 g (m * 4) w2 (.int .i64 y.f.time) y.d y.m (.int .u64 y.n))
  have hmv2 := moved_set4 g (m * 4) w2 (.int .i64 y.f.time) y.d y.m (.int .u64 y.n)
  have hlo := (h1.lt (k := g) rfl).1
  have hya2 : Apart w.heap.size g y := ⟨fun k e => ⟨Nat.le_trans h8.size (hya.1 k e).1, (hya.1 k e).2⟩, fun k e => ⟨Nat.le_trans h8.size (hya.2 k e).1, (hya.2 k e).2⟩⟩
  refine ⟨now.set m y, (h1.kept hg).set hm y, by simpa using h2, by omega, hk, ?_, ?_, ?_, Moved.kept h8 hmv hlo⟩
  · rw [List.drop_set, if_pos (by omega)]
    exact drop_succ h5
  · rw [take_p hx, mergeP_snoc, hc, ← h6, List.take_succ_eq_append_getElem (by simpa using hm), List.take_set_of_le (Nat.le_refl _)]
    simp only [List.map_append, List.map_cons, List.map_nil, List.getElem_set_self, Ro.p, hyf, hyn]
  · intro y2 hy2
    rw [List.take_succ_eq_append_getElem (by simpa using hm), List.take_set_of_le (Nat.le_refl _), List.mem_append, List.mem_singleton] at hy2
    rcases hy2 with hy2 | hy2
    · obtain ⟨a1, a2⟩ := h7 y2 hy2
      exact ⟨a1.moved hmv a2, a2⟩
    · rw [hy2, List.getElem_set_self]
      exact ⟨hyo.moved hmv2 hya, hya2⟩

theorem more_none {srt : List Ro} {k : Nat} (h : mergeP ((srt.take k).map Ro.p) = []) (r : Fa × Int) : mergeStep (mergeP ((srt.take k).map Ro.p)) r = mergeP ((srt.take k).map Ro.p) ++ [r] := by
  rw [h]; rfl

theorem Half.zero0 {w wr : World} {g c k : Nat} {srt : List Ro} (h : Half w g c srt k 0 wr) : mergeP ((srt.take k).map Ro.p) = [] := by
  obtain ⟨now, h1, h2, h3, h4, h5, h6, h7, h8⟩ := h
  rw [← h6]; rfl

/-- The end of the second loop. -/
theorem Half.done {w wr : World} {g c m : Nat} {srt : List Ro} (h : Half w g c srt srt.length m wr) :
    ∃ now : List Ro, now.length = m ∧ m ≤ srt.length ∧ OwnRows wr w.heap.size (.slice (some ⟨g, 0, none⟩) now.length c) now ∧ now.map Ro.p = mergeP (srt.map Ro.p) ∧ (∀ y ∈ now, y.mine wr ∧ Apart w.heap.size g y) ∧ Kept w wr := by
  obtain ⟨now, h1, h2, h3, h4, h5, h6, h7, h8⟩ := h
  have hl : (now.take m).length = m := by rw [List.length_take]; omega
  rw [List.take_length] at h6
  exact ⟨now.take m, hl, by omega, by rw [hl]; exact h1.front (k := m) (by omega), h6, h7, h8⟩

/-- Behind DeleteFunc. -/
theorem bag_done {w wr w' : World} {g c : Nat} {srt now : List Ro} {ps : List (Fa × Int)} {e : Ending} (hp : (srt.map Ro.p).Perm ps) (ha : Asc srt) (h4 : now.map Ro.p = mergeP (srt.map Ro.p)) (h5 : ∀ y ∈ now, y.mine wr ∧ Apart w.heap.size g y) (h6 : Kept w wr) (hlo : w.heap.size ≤ g)
    (hd : DelIs w.heap.size g c now wr e w') : BagIs w ps e w' := by
  obtain ⟨rfl, d2, d3⟩ := hd
  refine ⟨_, _, rfl, d2, ⟨srt.map Ro.p, hp, ?_, ?_⟩, ?_, Moved.kept h6 d3 hlo⟩
  · intro i j hi hj
    simp only [List.getElem_map]
    exact ha i j hi (by simpa using hj)
  · rw [← h4, List.filter_map]
    rfl
  · intro y hy
    obtain ⟨a1, a2⟩ := h5 y (List.mem_filter.1 hy).1
    exact ⟨a1.moved d3 a2, fun g2 e => by cases e; exact a2⟩

theorem bag_none {w w' : World} {v : Value} (hv : OwnRows w' w.heap.size v []) (hk : Kept w w') : BagIs w [] (.returned v) w' :=
  ⟨v, [], rfl, hv, ⟨[], List.Perm.refl _, fun i j _ hj => by simp at hj, rfl⟩, fun y hy => by simp at hy, hk⟩

end Go.Proofs.Ytcbgnikbaepkaaa
