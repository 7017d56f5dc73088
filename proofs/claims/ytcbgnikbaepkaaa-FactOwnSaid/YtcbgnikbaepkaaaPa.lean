/- Rows appended to rows; the document's Put. -/
import Derived.Test.YtcbgnikbaepkaaaSe
import Derived.Test.YtcbgnikbaepkaaaCk
import Derived.DataElems
namespace Go.Proofs.Ytcbgnikbaepkaaa
open Go.Shelf Go.RowKit Go.Lib Go.Sort Go.Proofs

/-- v is a slice that reads as these rows' cells. -/
def Src (w : World) (v : Value) (r : List Ro) : Prop := (v = .slice none 0 0 ∧ r = []) ∨ ∃ A c, v = .slice (some A) r.length c ∧ ∀ j y, (flat r)[j]? = some y → w.cell? (A.add j) = some y

theorem flat_one {r : List Ro} : ∀ u ∈ flat r, u.oneCell' = true := by
  intro u hu
  obtain ⟨x, _, hx⟩ := List.mem_flatMap.1 hu
  simp only [Ro.enc, List.mem_cons, List.not_mem_nil, or_false] at hx
  rcases hx with rfl | rfl | rfl | rfl <;> rfl

theorem flat_append (a b : List Ro) : flat (a ++ b) = flat a ++ flat b := by simp [flat]

theorem Src.kept {w w' : World} {v : Value} {r : List Ro} (h : Src w v r) (hk : Kept w w') : Src w' v r := by
  rcases h with h | ⟨A, c, hv, hc⟩
  · exact .inl h
  · exact .inr ⟨A, c, hv, fun j y hy => hk.cell (hc j y hy)⟩

theorem src_empty (w : World) (a : Option Addr) (c : Nat) (h : a = none → c = 0) : Src w (.slice a 0 c) [] := by
  cases a with
  | none => exact .inl ⟨by rw [h rfl], rfl⟩
  | some A => exact .inr ⟨A, c, rfl, fun j y hy => by simp [flat] at hy⟩

theorem wpList_append_rows {ops : Array Oper} {rest : List Oper} {o : Oper} {a : Act} {Q : Exit → Act → World → Prop} (hgd : o.guard = none) (s x : Operand)
    (ho : o.op = Op.call { callee := Callee.builtin Builtin.append, args := #[s, x], argTypes := #[36, 36] }) (w : World) (base : Nat) (v : Value) (l : List Ro) (hs : a.eval s = v) (hown : OwnRows w base v l) (sv : Value) (r : List Ro)
    (hxv : a.eval x = sv) (hsrc : Src w sv r) (hl : l.length + r.length < 2199023255552) (hbase : base ≤ w.heap.size) (n : Nat) (hn : n = l.length + r.length)
    (h : ∀ (a' : Option Addr) (c' : Nat) (w' : World), OwnRows w' base (.slice a' n c') (l ++ r) → w.grownBy w' v.ownBlock → wpList Try.prog ops Q rest (a.put o.dst (.slice a' n c')) w') :
    wpList Try.prog ops Q (o :: rest) a w := by
  obtain ⟨i0, hi, hz0, hz1, hz2⟩ := info_parts Try.info40
  subst hn
  rcases hsrc with ⟨rfl, rfl⟩ | ⟨A, c, rfl, hc⟩
  · refine wpList_append_own_none hgd s x 36 ho base 40 i0 4 Try.underlying36 hi v l.length (flat l) hs hown hxv ?_
    obtain ⟨a', c', hv⟩ := hown.slice
    subst hv
    simp only [List.length_nil, Nat.add_zero] at h
    exact h a' c' w (by simpa using hown) ⟨rfl, rfl, rfl, Nat.le_refl _, fun _ _ _ => rfl⟩
  · refine wpList_plain hgd fun K hK => ?_
    obtain ⟨v', w', hrun, h1, h2, _, h3⟩ := run_append_own_at (P := Try.prog) w base 36 o.type 40 i0 _ 4 64 Try.underlying36 hi hz0 hz1 hz2 rfl (by decide) v l.length (flat l) hown A r.length c (flat r) (flat_length r) hc flat_one (by unfold maxLen; omega) (by omega) hbase
    rw [← flat_append] at h1
    have h1' : OwnRows w' base v' (l ++ r) := by unfold OwnRows; rw [List.length_append]; exact h1
    obtain ⟨a', c', hv⟩ := h1'.slice
    rw [List.length_append] at hv
    subst hv
    unfold Oper.wp
    simp [execOp, ho, resolve, invoke, builtin, hs, hxv, hrun, Result.andThen]
    exact hK _ _ (h a' c' w' h1' h2)

/-- One row more, as one step of a region that draws its order. -/
theorem step_append_row {ops : Array Oper} {o : Oper} {a : Act} {K : Act → World → Prop} {Q : Exit → Act → World → Prop} {E : Prop} (hgd : o.guard = none) (s x : Operand)
    (ho : o.op = Op.call { callee := Callee.builtin Builtin.append, args := #[s, x], argTypes := #[36, 36] }) (U : World) (base : Nat) (v : Value) (l : List Ro) (hs : a.eval s = v) (hown : OwnRows U base v l) (u : Ro)
    (hxv : a.eval x = .slice (some ⟨U.heap.size, 0, none⟩) 1 1) (hl : l.length < 2199023255552) (hbase : base ≤ U.heap.size) (n : Nat) (hn : n = l.length + 1)
    (h : ∀ (a' : Option Addr) (c' : Nat) (w' : World), OwnRows w' base (.slice a' n c') (l ++ [u]) → (U.alloc (.cells #[.int .i64 u.f.time, .slice u.da u.dn u.dc, .slice u.ma u.mn u.mc, .int .u64 u.n] 40)).grownBy w' v.ownBlock → K (a.put o.dst (.slice a' n c')) w') :
    if Region.wanted o (yielded ops a.tmps) = true then Oper.wp Try.prog o a (U.alloc (.cells #[.int .i64 u.f.time, .slice u.da u.dn u.dc, .slice u.ma u.mn u.mc, .int .u64 u.n] 40)) K Q else E := by
  have hw : Region.wanted o (yielded ops a.tmps) = true := by simp [Region.wanted, hgd]
  rw [if_pos hw]
  obtain ⟨i0, hi, hz0, hz1, hz2⟩ := info_parts Try.info40
  have hown' : OwnRows (U.alloc (.cells u.enc.toArray 40)) base v l := hown.same fun k hk => Below.heap_alloc U _ _ (hown.lt hk).2
  have hnews : ∀ (j : Nat) (y : Value), u.enc[j]? = some y → (U.alloc (.cells u.enc.toArray 40)).cell? ((⟨U.heap.size, 0, none⟩ : Addr).add j) = some y := by
    intro j y hy
    have h0 := (MapKept.heap_alloc U (.cells u.enc.toArray 40)).1
    have e1 : (⟨U.heap.size, 0, none⟩ : Addr).add j = ⟨U.heap.size, j, none⟩ := by unfold Addr.add; split <;> simp_all
    rw [e1]
    simp only [World.cell?, h0]
    simpa using hy
  obtain ⟨v', w', hrun, h1, h2, _, h3⟩ := run_append_own_at (P := Try.prog) (U.alloc (.cells u.enc.toArray 40)) base 36 o.type 40 i0 _ 4 64 Try.underlying36 hi hz0 hz1 hz2 rfl (by decide) v l.length (flat l) hown' ⟨U.heap.size, 0, none⟩ 1 1 u.enc rfl hnews
    (fun y hy => by simp only [Ro.enc, List.mem_cons, List.not_mem_nil, or_false] at hy; rcases hy with rfl | rfl | rfl | rfl <;> rfl) (by unfold maxLen; omega) (by omega) (Nat.le_trans hbase (by simp))
  have hfl : flat l ++ u.enc = flat (l ++ [u]) := by simp [flat]
  rw [hfl] at h1
  have h1' : OwnRows w' base v' (l ++ [u]) := by unfold OwnRows; rw [show (l ++ [u]).length = l.length + 1 by simp]; exact h1
  obtain ⟨a', c', hv⟩ := h1'.slice
  rw [show (l ++ [u]).length = l.length + 1 by simp, ← hn] at hv
  subst hv
  unfold Oper.wp
  have hrun' : (Builtin.append_ #[36, 36] o.type #[v, .slice (some ⟨U.heap.size, 0, none⟩) 1 1]).run Try.prog (U.alloc (.cells #[.int .i64 u.f.time, .slice u.da u.dn u.dc, .slice u.ma u.mn u.mc, .int .u64 u.n] 40)) = .ok (.slice a' n c') w' := hrun
  simp [execOp, ho, resolve, invoke, builtin, hs, hxv, hrun', Result.andThen]
  exact h a' c' w' h1' h2

/-- A part of rows that came in. -/
theorem RowsAt.part {w : World} {A : Addr} {n c : Nat} {l : List Ro} (h : RowsAt w (.slice (some A) n c) l) (k m : Nat) (hkm : k + m ≤ l.length) (c' : Nat) : Src w (.slice (some (A.add (k * 4))) m c') ((l.drop k).take m) := by
  have hlen : ((l.drop k).take m).length = m := by rw [List.length_take, List.length_drop]; omega
  refine .inr ⟨A.add (k * 4), c', by rw [hlen], fun j y hy => ?_⟩
  have hj : j < m * 4 := by
    have := (List.getElem?_eq_some_iff.1 hy).1
    rwa [flat_length, hlen] at this
  have hi : j / 4 < ((l.drop k).take m).length := by rw [hlen]; omega
  have hg := flat_get ((l.drop k).take m) (j / 4) (j % 4) hi (Nat.mod_lt _ (by decide))
  rw [show j / 4 * 4 + j % 4 = j by omega, hy] at hg
  rw [List.getElem_take, List.getElem_drop] at hg
  obtain ⟨A', hA, hc⟩ := h.cells _ _ _ rfl (k + j / 4) (by omega)
  cases hA
  have := hc (j % 4) y hg.symm
  rw [Addr.add_add] at this ⊢
  rw [← this]
  congr 1
  congr 1
  omega

theorem RowsAt.front {w : World} {A : Addr} {n c : Nat} {l : List Ro} (h : RowsAt w (.slice (some A) n c) l) (m : Nat) (hm : m ≤ l.length) (c' : Nat) : Src w (.slice (some A) m c') (l.take m) := by
  have := h.part 0 m (by omega) c'
  rw [Nat.zero_mul, List.drop_zero] at this
  have e : A.add 0 = A := by unfold Addr.add; split <;> simp_all
  rwa [e] at this

/-- A row's cells, in every world that is w with draws and new blocks. -/
theorem rows_grown {w wr : World} {A : Addr} {n c : Nat} {l : List Ro} (h : RowsAt w (.slice (some A) n c) l) (hg : Grows w wr) {k : Nat} {x : Ro} (hx : l[k]? = some x) (q : Nat) (os : Array Obj) :
    (grow (wr.drewN q) os).cell? (A.add (k * 4)) = some (.int .i64 x.f.time) ∧ (grow (wr.drewN q) os).cell? ⟨(A.add (k * 4)).block, (A.add (k * 4)).off + 1, none⟩ = some (.slice x.da x.dn x.dc) ∧
    (grow (wr.drewN q) os).cell? ⟨(A.add (k * 4)).block, (A.add (k * 4)).off + 2, none⟩ = some (.slice x.ma x.mn x.mc) ∧ (grow (wr.drewN q) os).cell? ⟨(A.add (k * 4)).block, (A.add (k * 4)).off + 3, none⟩ = some (.int .u64 x.n) ∧ x.ok (grow (wr.drewN q) os) := by
  obtain ⟨hk, rfl⟩ := List.getElem?_eq_some_iff.1 hx
  obtain ⟨A', hA, hc⟩ := h.cells _ _ _ rfl k hk
  cases hA
  have gr : Grows w (grow (wr.drewN q) os) := hg.trans ⟨q, os, rfl⟩
  exact ⟨gr.cell (hc 0 _ rfl), gr.cell (hc 1 _ rfl), gr.cell (hc 2 _ rfl), gr.cell (hc 3 _ rfl), FaAt.grows (h.ok _ (List.getElem_mem hk)) gr⟩

theorem rows_some {w : World} {a : Option Addr} {n c : Nat} {l : List Ro} (h : RowsAt w (.slice a n c) l) {k : Nat} (hk : k < l.length) : ∃ A, a = some A := by
  obtain ⟨A, hA, _⟩ := h.cells _ _ _ rfl k hk
  exact ⟨A, hA⟩

theorem rows_kept {w wr : World} {A : Addr} {n c : Nat} {l : List Ro} (h : RowsAt w (.slice (some A) n c) l) (hg : Kept w wr) {k : Nat} {x : Ro} (hx : l[k]? = some x) :
    wr.cell? (A.add (k * 4)) = some (.int .i64 x.f.time) ∧ wr.cell? ⟨(A.add (k * 4)).block, (A.add (k * 4)).off + 1, none⟩ = some (.slice x.da x.dn x.dc) ∧
    wr.cell? ⟨(A.add (k * 4)).block, (A.add (k * 4)).off + 2, none⟩ = some (.slice x.ma x.mn x.mc) ∧ wr.cell? ⟨(A.add (k * 4)).block, (A.add (k * 4)).off + 3, none⟩ = some (.int .u64 x.n) ∧ x.ok wr := by
  obtain ⟨hk, rfl⟩ := List.getElem?_eq_some_iff.1 hx
  obtain ⟨A', hA, hc⟩ := h.cells _ _ _ rfl k hk
  cases hA
  exact ⟨hg.cell (hc 0 _ rfl), hg.cell (hc 1 _ rfl), hg.cell (hc 2 _ rfl), hg.cell (hc 3 _ rfl), FaAt.kept (h.ok _ (List.getElem_mem hk)) hg⟩

end Go.Proofs.Ytcbgnikbaepkaaa
