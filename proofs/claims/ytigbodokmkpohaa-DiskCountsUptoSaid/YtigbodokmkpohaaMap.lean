/- A map keyed by texts, whatever its elements: read as a function from texts to values. What a look-up, a store, a delete, a range do to it. No program. -/
import Derived.MapKept
import Derived.Maps.RangeWalk
import Derived.Maps.RangeRun
import Derived.Maps.OwnSet
import Derived.WalkKit
namespace Go.Proofs.Ytigbodokmkpohaa
open Go.MapKept Go.RowKit

/-- Block m of w is a map of n entries whose keys are texts; f says what stands at each. -/
def HasMap (w : World) (m n : Nat) (f : ByteArray → Option Value) : Prop :=
  ∃ es clock, w.heap[m]? = some (.map es clock) ∧ Stamped es clock ∧ (∀ x ∈ es.toList, IsKey .string x.key) ∧ es.size = n ∧
    ∀ s v, f s = some v ↔ ∃ x ∈ es.toList, x.key = .string s ∧ x.val = v

def upd {α : Type} (f : ByteArray → Option α) (s : ByteArray) (v : Option α) : ByteArray → Option α := fun t => if t = s then v else f t

theorem upd_same {α : Type} (f : ByteArray → Option α) (s : ByteArray) (v : Option α) : upd f s v s = v := by simp [upd]
theorem upd_other {α : Type} (f : ByteArray → Option α) (s t : ByteArray) (v : Option α) (h : t ≠ s) : upd f s v t = f t := by simp [upd, h]

theorem HasMap.lt {w : World} {m n : Nat} {f : ByteArray → Option Value} (h : HasMap w m n f) : m < w.heap.size := by
  obtain ⟨es, clock, hb, _⟩ := h
  exact (Array.getElem?_eq_some_iff.1 hb).1

theorem HasMap.kept {w w' : World} {m n : Nat} {f : ByteArray → Option Value} (h : HasMap w m n f) (hb : w'.heap[m]? = w.heap[m]?) : HasMap w' m n f := by
  obtain ⟨es, clock, h1, h2⟩ := h
  exact ⟨es, clock, hb.trans h1, h2⟩

theorem HasMap.made (w : World) : HasMap (w.alloc (.map #[] 0)) w.heap.size 0 (fun _ => none) :=
  ⟨#[], 0, (heap_alloc w _).1, stamped_empty 0, by simp, rfl, by simp⟩

/-- What stands at a key: an entry, if there is one. -/
theorem HasMap.find {es : Array MapEntry} {f : ByteArray → Option Value} (hks : ∀ x ∈ es.toList, IsKey .string x.key) (hnd : (es.toList.map (·.key)).Nodup)
    (hf : ∀ s v, f s = some v ↔ ∃ x ∈ es.toList, x.key = .string s ∧ x.val = v) (s : ByteArray) :
    (Instr.findNow .string (.string s) es.toList 0 = some none ∧ f s = none ∧ ∀ x ∈ es.toList, x.key ≠ .string s) ∨
    ∃ j e, Instr.findNow .string (.string s) es.toList 0 = some (some (j, e.val)) ∧ es[j]? = some e ∧ e.key = .string s ∧ f s = some e.val := by
  rcases findNow_spec (d := .string) (k := .string s) trivial es.toList 0 hks with ⟨h1, h2⟩ | ⟨j, e, h1, h2, h3⟩
  · refine .inl ⟨h1, ?_, h2⟩
    cases hs : f s with
    | none => rfl
    | some v => obtain ⟨x, hx, hk, _⟩ := (hf s v).1 hs; exact absurd hk (h2 x hx)
  · refine .inr ⟨j, e, by simpa using h1, by simpa using h2, h3, (hf s e.val).2 ⟨e, List.mem_of_getElem? h2, h3, rfl⟩⟩

theorem HasMap.look {P : Program} {t k e : TypeId} {w : World} {m n : Nat} {f : ByteArray → Option Value} (h : HasMap w m n f) (ht : P.underlying t = some (.map k e)) (hk : P.underlying k = some .string)
    {z : Value} (hz : (zeroValue e).run P w = .ok z w) (s : ByteArray) : (Instr.lookup t (.map (some m)) (.string s) false).run P w = .ok ((f s).getD z) w := by
  obtain ⟨es, clock, hb, hst, hks, hn, hf⟩ := h
  rcases HasMap.find hks hst.2.2 hf s with ⟨h1, h2, _⟩ | ⟨j, e0, h1, h2, h3, h4⟩
  · simp [Instr.lookup, run_underlying ht, MapKept.run_getObj_map hb, MapKept.run_checkKey hk (show IsKey .string (.string s) from trivial), MapKept.run_findKey hk h1, hz, Result.andThen, h2]
  · simp [Instr.lookup, run_underlying ht, MapKept.run_getObj_map hb, MapKept.run_checkKey hk (show IsKey .string (.string s) from trivial), MapKept.run_findKey hk h1, Result.andThen, h4]

theorem HasMap.len {P : Program} {t k e : TypeId} {w : World} {m n : Nat} {f : ByteArray → Option Value} (h : HasMap w m n f) (ht : P.underlying t = some (.map k e)) (ty : TypeId) :
    (Builtin.len_ #[t] ty #[.map (some m)]).run P w = .ok (.int .i64 n) w := by
  obtain ⟨es, clock, hb, hst, hks, hn, hf⟩ := h
  subst hn
  simp [Builtin.len_, run_underlying ht, MapKept.run_getObj_map hb, Result.andThen, goInt]

theorem grownBy_setBlock {w : World} {m : Nat} (o : Obj) : w.grownBy { w with heap := w.heap.setIfInBounds m o } (some m) :=
  ⟨rfl, rfl, rfl, by simp, fun k _ hne => by simp [Array.getElem?_setIfInBounds, show m ≠ k from fun e => hne (by rw [e])]⟩

theorem HasMap.put {P : Program} {t k e : TypeId} {w : World} {m n : Nat} {f : ByteArray → Option Value} (h : HasMap w m n f) (ht : P.underlying t = some (.map k e)) (hk : P.underlying k = some .string)
    (s : ByteArray) (v : Value) : ∃ w', (Instr.mapUpdate t (.map (some m)) (.string s) v).run P w = .ok () w' ∧ HasMap w' m (if (f s).isSome then n else n + 1) (upd f s (some v)) ∧ w.grownBy w' (some m) ∧ w'.heap.size = w.heap.size := by
  obtain ⟨es, clock, hb, hst, hks, hn, hf⟩ := h
  have K : IsKey .string (.string s) := trivial
  rcases HasMap.find hks hst.2.2 hf s with ⟨h1, h2, h3⟩ | ⟨j, e0, h1, h2, h3, h4⟩
  · refine ⟨_, by simp [Instr.mapUpdate, run_underlying ht, MapKept.run_getObj_map hb, MapKept.run_checkKey hk K, MapKept.run_findKey hk h1, MapKept.run_setObj_map _ hb, Result.andThen]; rfl, ?_, grownBy_setBlock _, by simp⟩
    refine ⟨es.push { key := .string s, val := v, born := clock }, clock + 1, (heap_set hb).1, stamped_push hst h3, ?_, by simp [h2, hn], ?_⟩
    · intro x hx
      simp only [Array.toList_push, List.mem_append, List.mem_singleton] at hx
      rcases hx with hx | rfl
      · exact hks x hx
      · exact K
    · intro s' v'
      by_cases hss : s' = s
      · subst hss
        rw [upd_same]
        constructor
        · intro hv; cases hv; exact ⟨{ key := .string s', val := v, born := clock }, by simp, rfl, rfl⟩
        · rintro ⟨x, hx, hxk, rfl⟩
          simp only [Array.toList_push, List.mem_append, List.mem_singleton] at hx
          rcases hx with hx | rfl
          · exact absurd hxk (h3 x hx)
          · rfl
      · rw [upd_other _ _ _ _ hss, hf]
        constructor
        · rintro ⟨x, hx, r⟩; exact ⟨x, by simp [hx], r⟩
        · rintro ⟨x, hx, hxk, r⟩
          simp only [Array.toList_push, List.mem_append, List.mem_singleton] at hx
          rcases hx with hx | rfl
          · exact ⟨x, hx, hxk, r⟩
          · cases hxk; exact absurd rfl hss
  · have hj : j < es.size := (Array.getElem?_eq_some_iff.1 h2).1
    refine ⟨_, by simp [Instr.mapUpdate, run_underlying ht, MapKept.run_getObj_map hb, MapKept.run_checkKey hk K, MapKept.run_findKey hk h1, h2, h3, MapKept.run_keyThatStays K, MapKept.run_setObj_map _ hb, Result.andThen]; rfl, ?_, grownBy_setBlock _, by simp⟩
    refine ⟨_, _, (heap_set hb).1, stamped_modify hst _ _ (fun _ _ => rfl) (fun x hx hx2 => ?_), isKey_modify hks _ _ (fun x hx => ?_), by simp [h4, hn], ?_⟩
    · rw [h2] at hx2; cases hx2; exact h3.symm
    · rw [h2] at hx; cases hx; exact h3.symm
    · intro s' v'
      have hmem : ∀ x, x ∈ (es.modify j fun e => { e with key := .string s, val := v }).toList ↔ ∃ i y, es[i]? = some y ∧ x = if i = j then { y with key := .string s, val := v } else y := by
        intro x
        rw [List.mem_iff_getElem?]
        constructor
        · rintro ⟨i, hi⟩
          rw [Array.getElem?_toList, Array.getElem?_modify] at hi
          by_cases hij : j = i
          · subst hij
            rw [if_pos rfl, h2] at hi
            simp only [Option.map_some, Option.some.injEq] at hi
            exact ⟨j, e0, h2, by rw [if_pos rfl]; exact hi.symm⟩
          · rw [if_neg hij] at hi
            exact ⟨i, x, hi, by rw [if_neg (Ne.symm hij)]⟩
        · rintro ⟨i, y, hi, rfl⟩
          refine ⟨i, ?_⟩
          rw [Array.getElem?_toList, Array.getElem?_modify]
          by_cases hij : i = j
          · subst hij; simp [hi]
          · rw [if_neg (Ne.symm hij), if_neg hij]; exact hi
      have huniq : ∀ i y, es[i]? = some y → y.key = .string s → i = j := by
        intro i y hi hy
        have hnd := hst.2.2
        have a1 : (es.toList.map (·.key))[i]? = some (.string s) := by simp [hi, hy]
        have a2 : (es.toList.map (·.key))[j]? = some (.string s) := by simp [h2, h3]
        exact (List.getElem?_inj (by simp; exact (Array.getElem?_eq_some_iff.1 hi).1) hnd).1 (a1.trans a2.symm)
      by_cases hss : s' = s
      · subst hss
        rw [upd_same]
        constructor
        · intro hv; cases hv
          exact ⟨{ e0 with key := .string s', val := v }, (hmem _).2 ⟨j, e0, h2, by rw [if_pos rfl]⟩, rfl, rfl⟩
        · rintro ⟨x, hx, hxk, rfl⟩
          obtain ⟨i, y, hi, rfl⟩ := (hmem x).1 hx
          by_cases hij : i = j
          · rw [if_pos hij]
          · rw [if_neg hij] at hxk
            exact absurd (huniq i y hi hxk) hij
      · rw [upd_other _ _ _ _ hss, hf]
        constructor
        · rintro ⟨x, hx, hxk, r⟩
          obtain ⟨i, hi⟩ := List.mem_iff_getElem?.1 hx
          rw [Array.getElem?_toList] at hi
          have hij : i ≠ j := by
            rintro rfl
            rw [h2] at hi; cases hi
            rw [h3] at hxk; cases hxk; exact hss rfl
          exact ⟨x, (hmem x).2 ⟨i, x, hi, by rw [if_neg hij]⟩, hxk, r⟩
        · rintro ⟨x, hx, hxk, r⟩
          obtain ⟨i, y, hi, rfl⟩ := (hmem x).1 hx
          by_cases hij : i = j
          · rw [if_pos hij] at hxk; cases hxk; exact absurd rfl hss
          · rw [if_neg hij] at hxk r
            exact ⟨y, by rw [← Array.getElem?_toList] at hi; exact List.mem_of_getElem? hi, hxk, r⟩

theorem HasMap.del {P : Program} {t k e : TypeId} {w : World} {m n : Nat} {f : ByteArray → Option Value} (h : HasMap w m n f) (ht : P.underlying t = some (.map k e)) (hk : P.underlying k = some .string) (ty : TypeId)
    (s : ByteArray) : ∃ w', (Builtin.delete_ #[t, k] ty #[.map (some m), .string s]).run P w = .ok (.tuple #[]) w' ∧ HasMap w' m (if (f s).isSome then n - 1 else n) (upd f s none) ∧ w.grownBy w' (some m) ∧ w'.heap.size = w.heap.size := by
  obtain ⟨es, clock, hb, hst, hks, hn, hf⟩ := h
  have K : IsKey .string (.string s) := trivial
  rcases HasMap.find hks hst.2.2 hf s with ⟨h1, h2, h3⟩ | ⟨j, e0, h1, h2, h3, h4⟩
  · refine ⟨_, by simp [Builtin.delete_, run_underlying ht, MapKept.run_getObj_map hb, MapKept.run_checkKey hk K, MapKept.run_findKey hk h1, MapKept.run_setObj_map _ hb, Result.andThen]; rfl, ?_, grownBy_setBlock _, by simp⟩
    refine ⟨es, clock, (heap_set hb).1, hst, hks, by simp [h2, hn], ?_⟩
    intro s' v'
    by_cases hss : s' = s
    · subst hss
      rw [upd_same]
      exact ⟨(fun hv => by cases hv), fun ⟨x, hx, hxk, _⟩ => absurd hxk (h3 x hx)⟩
    · rw [upd_other _ _ _ _ hss, hf]
  · have hj : j < es.size := (Array.getElem?_eq_some_iff.1 h2).1
    refine ⟨_, by simp [Builtin.delete_, run_underlying ht, MapKept.run_getObj_map hb, MapKept.run_checkKey hk K, MapKept.run_findKey hk h1, MapKept.run_setObj_map _ hb, Result.andThen]; rfl, ?_, grownBy_setBlock _, by simp⟩
    have el : (es.eraseIdxIfInBounds j).toList = es.toList.eraseIdx j := by
      unfold Array.eraseIdxIfInBounds
      rw [dif_pos hj, Array.toList_eraseIdx]
    have huniq : ∀ i y, es[i]? = some y → y.key = .string s → i = j := by
      intro i y hi hy
      have hnd := hst.2.2
      have a1 : (es.toList.map (·.key))[i]? = some (.string s) := by simp [hi, hy]
      have a2 : (es.toList.map (·.key))[j]? = some (.string s) := by simp [h2, h3]
      exact (List.getElem?_inj (by simp; exact (Array.getElem?_eq_some_iff.1 hi).1) hnd).1 (a1.trans a2.symm)
    refine ⟨_, _, (heap_set hb).1, stamped_erase hst _, ?_, ?_, ?_⟩
    · intro x hx
      rw [el] at hx
      exact hks x ((List.eraseIdx_sublist _ _).subset hx)
    · rw [← Array.length_toList, el, List.length_eraseIdx]
      simp [h4, hj, hn]
      omega
    · intro s' v'
      rw [el]
      by_cases hss : s' = s
      · subst hss
        rw [upd_same]
        refine ⟨(fun hv => by cases hv), ?_⟩
        rintro ⟨x, hx, hxk, _⟩
        rw [List.mem_eraseIdx_iff_getElem?] at hx
        obtain ⟨i, hij, hi⟩ := hx
        exact absurd (huniq i x (by simpa using hi) hxk) hij
      · rw [upd_other _ _ _ _ hss, hf]
        constructor
        · rintro ⟨x, hx, hxk, r⟩
          obtain ⟨i, hi⟩ := List.mem_iff_getElem?.1 hx
          refine ⟨x, List.mem_eraseIdx_iff_getElem?.2 ⟨i, ?_, hi⟩, hxk, r⟩
          rintro rfl
          rw [Array.getElem?_toList, h2] at hi; cases hi
          rw [h3] at hxk; cases hxk; exact hss rfl
        · rintro ⟨x, hx, r⟩
          exact ⟨x, (List.eraseIdx_sublist _ _).subset hx, r⟩

/-- Block r of w is an iterator over the map in block m, which is as f says; left: the keys that are still to come; cnt: how many. -/
def RangeAt (w : World) (m r n : Nat) (f : ByteArray → Option Value) (left : ByteArray → Prop) (cnt : Nat) : Prop :=
  ∃ es clock seen, w.heap[m]? = some (.map es clock) ∧ Stamped es clock ∧ (∀ x ∈ es.toList, IsKey .string x.key) ∧ es.size = n ∧
    (∀ s v, f s = some v ↔ ∃ x ∈ es.toList, x.key = .string s ∧ x.val = v) ∧ w.heap[r]? = some (.mapIter (some m) clock seen clock) ∧
    (∀ s, left s ↔ ∃ x ∈ es.toList, x.key = .string s ∧ x.born ∉ seen) ∧ cnt = (leftOf es seen).size

theorem RangeAt.map {w : World} {m r n : Nat} {f : ByteArray → Option Value} {left : ByteArray → Prop} {cnt : Nat} (h : RangeAt w m r n f left cnt) : HasMap w m n f := by
  obtain ⟨es, clock, seen, h1, h2, h3, h4, h5, _⟩ := h
  exact ⟨es, clock, h1, h2, h3, h4, h5⟩

theorem RangeAt.kept {w w' : World} {m r n : Nat} {f : ByteArray → Option Value} {left : ByteArray → Prop} {cnt : Nat} (h : RangeAt w m r n f left cnt) (hm : w'.heap[m]? = w.heap[m]?) (hr : w'.heap[r]? = w.heap[r]?) : RangeAt w' m r n f left cnt := by
  obtain ⟨es, clock, seen, h1, h2, h3, h4, h5, h6, h7⟩ := h
  exact ⟨es, clock, seen, hm.trans h1, h2, h3, h4, h5, hr.trans h6, h7⟩

theorem RangeAt.lt {w : World} {m r n : Nat} {f : ByteArray → Option Value} {left : ByteArray → Prop} {cnt : Nat} (h : RangeAt w m r n f left cnt) : r < w.heap.size := by
  obtain ⟨es, clock, seen, h1, h2, h3, h4, h5, h6, h7⟩ := h
  exact (Array.getElem?_eq_some_iff.1 h6).1

theorem HasMap.range {P : Program} {t k e : TypeId} {w : World} {m n : Nat} {f : ByteArray → Option Value} (h : HasMap w m n f) (ht : P.underlying t = some (.map k e)) :
    ∃ o cnt, (Instr.range t (.map (some m))).run P w = .ok (.pointer (some ⟨w.heap.size, 0, none⟩)) (w.alloc o) ∧ RangeAt (w.alloc o) m w.heap.size n f (fun s => f s ≠ none) cnt := by
  obtain ⟨es, clock, hb, hst, hks, hn, hf⟩ := h
  have hlt : m < w.heap.size := (Array.getElem?_eq_some_iff.1 hb).1
  refine ⟨.mapIter (some m) clock #[] clock, _, by simp [Instr.range, run_underlying ht, MapKept.run_getObj_map hb, Result.andThen], es, clock, #[], ((heap_alloc w _).2 m hlt).trans hb, hst, hks, hn, hf, (heap_alloc w _).1, ?_, rfl⟩
  intro s
  constructor
  · intro hs
    obtain ⟨v, hv⟩ := Option.ne_none_iff_exists'.1 hs
    obtain ⟨x, hx, hk, _⟩ := (hf s v).1 hv
    exact ⟨x, hx, hk, by simp⟩
  · rintro ⟨x, hx, hk, _⟩ hs
    have := (hf s x.val).2 ⟨x, hx, hk, rfl⟩
    rw [hs] at this; cases this

theorem RangeAt.next {P : Program} {w : World} {m r n : Nat} {f : ByteArray → Option Value} {left : ByteArray → Prop} {cnt : Nat} (h : RangeAt w m r n f left cnt) (ty : TypeId) :
    ((∀ s, ¬ left s) ∧ (Instr.next (.pointer (some ⟨r, 0, none⟩)) false ty).run P w = .ok (.tuple #[.bool false]) w) ∨
    ∃ s v w' cnt', left s ∧ f s = some v ∧ (Instr.next (.pointer (some ⟨r, 0, none⟩)) false ty).run P w = .ok (.tuple #[.bool true, .string s, v]) w' ∧
      RangeAt w' m r n f (fun t => left t ∧ t ≠ s) cnt' ∧ cnt' < cnt ∧ w.grownBy w' (some r) ∧ w'.heap.size = w.heap.size ∧ (Instr.entry (.pointer (some ⟨r, 0, none⟩))).run P w' = .ok (.tuple #[.string s, v]) w' := by
  obtain ⟨es, clock, seen, hm, hst, hks, hn, hf, hr, hl, rfl⟩ := h
  rcases run_next_at (P := P) w ty r m clock clock seen es clock hr hm (fun x hx => hst.1 x hx) (Nat.le_refl _) with ⟨h0, hrun⟩ | ⟨e, he, w1, hw1, hrun⟩
  · refine .inl ⟨fun s hs => ?_, hrun⟩
    obtain ⟨x, hx, _, hxs⟩ := (hl s).1 hs
    have : x ∈ leftOf es seen := by simp only [leftOf, Array.mem_filter]; exact ⟨Array.mem_toList_iff.1 hx, by simpa using hxs⟩
    rw [Array.eq_empty_of_size_eq_zero h0] at this
    simp at this
  · have he' : e ∈ es.toList ∧ e.born ∉ seen := by
      have := Array.mem_toList_iff.1 he
      simp only [leftOf, Array.mem_filter] at this
      exact ⟨Array.mem_toList_iff.2 this.1, by simpa using this.2⟩
    obtain ⟨hmem, hns⟩ := he'
    obtain ⟨s, hs⟩ : ∃ s, e.key = .string s := by
      have := hks e hmem
      cases hk : e.key <;> simp_all [IsKey]
    have hmr : m ≠ r := by rintro rfl; rw [hm] at hr; cases hr
    have hheap : w1.heap = w.heap := by rcases hw1 with rfl | rfl <;> rfl
    have hr1 : w1.heap[r]? = some (.mapIter (some m) clock seen clock) := by rw [hheap]; exact hr
    have hm' : (w1.heap.setIfInBounds r (.mapIter (some m) clock (seen.push e.born) clock))[m]? = some (.map es clock) := by rw [(heap_set hr1).2 m hmr, hheap]; exact hm
    have hgrow : w.grownBy (ChangeMaps.setBlock w1 r (.mapIter (some m) clock (seen.push e.born) clock)) (some r) := by
      have := grownBy_setBlock (w := w1) (m := r) (.mapIter (some m) clock (seen.push e.born) clock)
      rcases hw1 with rfl | rfl
      · exact this
      · exact ⟨rfl, rfl, rfl, this.size, this.block⟩
    refine .inr ⟨s, e.val, _, (leftOf es (seen.push e.born)).size, (hl s).2 ⟨e, hmem, hs, hns⟩, (hf s e.val).2 ⟨e, hmem, hs, rfl⟩, by rw [← hs]; exact hrun, ?_, ?_, hgrow, ?_, ?_⟩
    · refine ⟨es, clock, seen.push e.born, hm', hst, hks, hn, hf, (heap_set hr1).1, ?_, rfl⟩
      intro t
      constructor
      · rintro ⟨ht, hts⟩
        obtain ⟨x, hx, hxk, hxs⟩ := (hl t).1 ht
        refine ⟨x, hx, hxk, ?_⟩
        simp only [Array.mem_push]
        rintro (h | h)
        · exact hxs h
        · obtain ⟨i, hi⟩ := List.mem_iff_getElem?.1 hx
          obtain ⟨j, hj⟩ := List.mem_iff_getElem?.1 hmem
          have a1 : (es.toList.map (·.born))[i]? = some e.born := by rw [List.getElem?_map, hi]; simp [h]
          have a2 : (es.toList.map (·.born))[j]? = some e.born := by rw [List.getElem?_map, hj]; rfl
          have hij := (List.getElem?_inj (by rw [List.length_map]; exact (List.getElem?_eq_some_iff.1 hi).1) hst.2.1).1 (a1.trans a2.symm)
          subst hij
          rw [hi] at hj; cases hj
          rw [hs] at hxk; cases hxk; exact hts rfl
      · rintro ⟨x, hx, hxk, hxs⟩
        simp only [Array.mem_push, not_or] at hxs
        refine ⟨(hl t).2 ⟨x, hx, hxk, hxs.1⟩, ?_⟩
        rintro rfl
        obtain ⟨i, hi⟩ := List.mem_iff_getElem?.1 hx
        obtain ⟨j, hj⟩ := List.mem_iff_getElem?.1 hmem
        have a1 : (es.toList.map (·.key))[i]? = some (.string t) := by rw [List.getElem?_map, hi]; simp [hxk]
        have a2 : (es.toList.map (·.key))[j]? = some (.string t) := by rw [List.getElem?_map, hj]; simp [hs]
        have hij := (List.getElem?_inj (by rw [List.length_map]; exact (List.getElem?_eq_some_iff.1 hi).1) hst.2.2).1 (a1.trans a2.symm)
        subst hij
        rw [hi] at hj; cases hj
        exact hxs.2 rfl
    · unfold leftOf
      have es1 : ∀ q : MapEntry → Bool, (es.filter q).size = (es.toList.filter q).length := fun q => by rw [← Array.length_toList, Array.toList_filter]
      rw [es1, es1]
      have e1 : es.toList.filter (fun x => !(seen.push e.born).contains x.born) = (es.toList.filter (fun x => !seen.contains x.born)).filter (fun x => !(x.born == e.born)) := by
        rw [List.filter_filter]
        congr 1
        funext x
        simp only [Array.contains_push]
        by_cases hb : x.born = e.born <;> simp [hb, Bool.and_comm]
      rw [e1]
      have hin : e ∈ es.toList.filter (fun x => !seen.contains x.born) := List.mem_filter.2 ⟨hmem, by simpa using hns⟩
      rcases Nat.lt_or_ge ((es.toList.filter (fun x => !seen.contains x.born)).filter (fun x => !(x.born == e.born))).length (es.toList.filter (fun x => !seen.contains x.born)).length with h | h
      · exact h
      · have := List.length_filter_le (fun x : MapEntry => !(x.born == e.born)) (es.toList.filter (fun x => !seen.contains x.born))
        have := List.length_filter_eq_length_iff.1 (Nat.le_antisymm this h) e hin
        simp at this
    · show (w1.heap.setIfInBounds r _).size = _
      rw [Array.size_setIfInBounds, hheap]
    · rw [← hs]
      exact run_entry_at _ r m clock seen es clock e (heap_set hr1).1 hm' hmem hst.2.1

/-- How many entries there are behind a delete. -/
def delCount (v : Option Value) (n : Nat) : Nat := if v.isSome then n - 1 else n

section
variable {P : Program} (w : World) {ops : Array Oper} {rest : List Oper} {o : Oper} {a : Act} {Q : Exit → Act → World → Prop}

theorem wpList_put (hg : o.guard = none) (m x v : Operand) (t : TypeId) (hop : o.op = Op.mapUpdate t m x v) (k e : TypeId) (ht : P.underlying t = some (.map k e)) (hk : P.underlying k = some .string)
    (M n : Nat) (f : ByteArray → Option Value) (hm : a.eval m = .map (some M)) (h : HasMap w M n f) (s : ByteArray) (val : Value) (hx : a.eval x = .string s) (hv : a.eval v = val)
    (hK : ∀ w', HasMap w' M (if (f s).isSome then n else n + 1) (upd f s (some val)) → w.grownBy w' (some M) → w'.heap.size = w.heap.size → wpList P ops Q rest (a.put o.dst undef) w') :
    wpList P ops Q (o :: rest) a w := by
  refine wpList_plain hg fun K' hK' => ?_
  obtain ⟨w', hrun, r1, r2, r3⟩ := h.put (P := P) ht hk s val
  unfold Oper.wp
  simp [execOp, hop, hm, hx, hv, hrun, Result.andThen]
  exact hK' _ _ (hK w' r1 r2 r3)

theorem wpList_del (hg : o.guard = none) (m x : Operand) (t k : TypeId) (hop : o.op = Op.call { callee := Callee.builtin Builtin.delete, args := #[m, x], argTypes := #[t, k] }) (e : TypeId) (ht : P.underlying t = some (.map k e)) (hk : P.underlying k = some .string)
    (M n : Nat) (f : ByteArray → Option Value) (hm : a.eval m = .map (some M)) (h : HasMap w M n f) (s : ByteArray) (hx : a.eval x = .string s)
    (hK : ∀ w', HasMap w' M (delCount (f s) n) (upd f s none) → w.grownBy w' (some M) → w'.heap.size = w.heap.size → wpList P ops Q rest (a.put o.dst (.tuple #[])) w') :
    wpList P ops Q (o :: rest) a w := by
  refine wpList_plain hg fun K' hK' => ?_
  obtain ⟨w', hrun, r1, r2, r3⟩ := h.del (P := P) ht hk o.type s
  unfold Oper.wp
  simp [execOp, hop, resolve, invoke, builtin, hm, hx, hrun, Result.andThen]
  exact hK' _ _ (hK w' r1 r2 r3)
end

end Go.Proofs.Ytigbodokmkpohaa
