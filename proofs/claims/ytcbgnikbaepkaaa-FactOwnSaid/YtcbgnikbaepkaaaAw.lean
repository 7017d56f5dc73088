/- awake. -/
import Derived.Test.YtcbgnikbaepkaaaCo
namespace Go.Proofs.Ytcbgnikbaepkaaa
open Go.Shelf Go.RowKit Go.Lib Go.Sort Go.Proofs

theorem RowsAt.kept {w w' : World} {v : Value} {l : List Ro} (h : RowsAt w v l) (hk : Kept w w') : RowsAt w' v l :=
  ⟨h.slice, fun a n c hv i hi => by
    obtain ⟨A, ha, hc⟩ := h.cells a n c hv i hi
    exact ⟨A, ha, fun j y hy => hk.cell (hc j y hy)⟩, fun x hx => FaAt.kept (h.ok x hx) hk, h.len⟩

/-- The sort of few rows, in whatever world. -/
theorem sort_few (N : Nat) (hN : N < 20) (w0 wr : World) (g c : Nat) (rows : List Ro) (hk : Kept w0 wr) (ho : OwnRows wr w0.heap.size (.slice (some ⟨g, 0, none⟩) rows.length c) rows) (hr : ∀ x ∈ rows, x.ok w0) (hl : rows.length ≤ N) :
    Calls Try.prog 45 #[.slice (some ⟨g, 0, none⟩) rows.length c, .func (.func 46) #[] #[]] wr (Sorts w0 w0.heap.size g rows.length c rows wr) :=
  sorts_small ho hr hk (Nat.le_refl _) (Nat.lt_of_le_of_lt hl hN)

/-- What awake's variables hold. -/
structure AwAt (h g : Nat) (c : Nat) (l : List Ro) (V : World) : Prop where
  x0 : V.cell? ⟨h + 1, 0, none⟩ = some (.int .i64 1)
  x1 : V.cell? ⟨h + 1, 1, none⟩ = some (.slice (some ⟨h, 0, none⟩) 1 1)
  x2 : V.cell? ⟨h + 1, 2, none⟩ = some (.slice none 0 0)
  y0 : V.cell? ⟨h + 1 + 1, 0, none⟩ = some (.int .i64 2)
  y1 : V.cell? ⟨h + 1 + 1, 1, none⟩ = some (.slice none 0 0)
  y2 : V.cell? ⟨h + 1 + 1, 2, none⟩ = some (.slice none 0 0)
  fx : FaAt V (.slice (some ⟨h, 0, none⟩) 1 1) (.slice none 0 0) xFa
  fy : FaAt V (.slice none 0 0) (.slice none 0 0) yFa
  b0 : V.cell? ⟨g, 3, none⟩ = some (.int .u64 2)
  b1 : V.cell? ⟨g, 7, none⟩ = some (.int .u64 1)
  rows : RowsAt V (.slice (some ⟨g, 0, none⟩) 2 c) l

theorem AwAt.grows {h g c : Nat} {l : List Ro} {V W : World} (a : AwAt h g c l V) (k : Grows V W) : AwAt h g c l W :=
  ⟨k.cell a.x0, k.cell a.x1, k.cell a.x2, k.cell a.y0, k.cell a.y1, k.cell a.y2, a.fx.grows k, a.fy.grows k, k.cell a.b0, k.cell a.b1, a.rows.kept k.kept⟩

def awRows (h : Nat) : List Ro := [⟨some ⟨h, 0, none⟩, 1, 1, none, 0, 0, xFa, 0⟩, ⟨none, 0, 0, none, 0, 0, yFa, 0⟩, ⟨some ⟨h, 0, none⟩, 1, 1, none, 0, 0, xFa, 0⟩]

def awW (w : World) : World := (((w.alloc (.cells #[.string ⟨#[97]⟩] 9)).alloc (.cells #[.int .i64 1, .slice (some ⟨w.heap.size, 0, none⟩) 1 1, .slice none 0 0] 27)).alloc (.cells #[.int .i64 2, .slice none 0 0, .slice none 0 0] 27)).alloc
  (.cells #[.int .i64 1, .slice (some ⟨w.heap.size, 0, none⟩) 1 1, .slice none 0 0, .int .i64 2, .slice none 0 0, .slice none 0 0, .int .i64 1, .slice (some ⟨w.heap.size, 0, none⟩) 1 1, .slice none 0 0] 27)

theorem awW_grows (w : World) : Grows w (awW w) := (((Grows.alloc _ _).trans (Grows.alloc _ _)).trans (Grows.alloc _ _)).trans (Grows.alloc _ _)

theorem awW_blocks (w : World) : (awW w).heap[w.heap.size]? = some (.cells #[.string ⟨#[97]⟩] 9 (0, 0)) ∧ (awW w).heap[w.heap.size + 1]? = some (.cells #[.int .i64 1, .slice (some ⟨w.heap.size, 0, none⟩) 1 1, .slice none 0 0] 27 (0, 0)) ∧ (awW w).heap[w.heap.size + 1 + 1]? = some (.cells #[.int .i64 2, .slice none 0 0, .slice none 0 0] 27 (0, 0)) ∧
    (awW w).heap[w.heap.size + 1 + 1 + 1]? = some (.cells #[.int .i64 1, .slice (some ⟨w.heap.size, 0, none⟩) 1 1, .slice none 0 0, .int .i64 2, .slice none 0 0, .slice none 0 0, .int .i64 1, .slice (some ⟨w.heap.size, 0, none⟩) 1 1, .slice none 0 0] 27 (0, 0)) := by
  have new : ∀ (W : World) (o : Array Value) (e : TypeId), (W.alloc (.cells o e)).heap[W.heap.size]? = some (.cells o e (0, 0)) := fun W o e => (MapKept.heap_alloc W (.cells o e)).1
  have old : ∀ (W : World) (o : Obj) (k : Nat) (b : Obj), W.heap[k]? = some b → (W.alloc o).heap[k]? = some b := fun W o k b h => (Below.heap_alloc W o k (Array.getElem?_eq_some_iff.1 h).1).trans h
  have sz : ∀ (W : World) (o : Obj), (W.alloc o).heap.size = W.heap.size + 1 := fun W o => by simp
  unfold awW
  refine ⟨old _ _ _ _ (old _ _ _ _ (old _ _ _ _ (new _ _ _))), old _ _ _ _ (old _ _ _ _ ?_), old _ _ _ _ ?_, ?_⟩
  · have := new (w.alloc (.cells #[.string ⟨#[97]⟩] 9)) #[.int .i64 1, .slice (some ⟨w.heap.size, 0, none⟩) 1 1, .slice none 0 0] 27
    rwa [sz] at this
  · have := new ((w.alloc (.cells #[.string ⟨#[97]⟩] 9)).alloc (.cells #[.int .i64 1, .slice (some ⟨w.heap.size, 0, none⟩) 1 1, .slice none 0 0] 27)) #[.int .i64 2, .slice none 0 0, .slice none 0 0] 27
    rwa [sz, sz] at this
  · have := new (((w.alloc (.cells #[.string ⟨#[97]⟩] 9)).alloc (.cells #[.int .i64 1, .slice (some ⟨w.heap.size, 0, none⟩) 1 1, .slice none 0 0] 27)).alloc (.cells #[.int .i64 2, .slice none 0 0, .slice none 0 0] 27)) #[.int .i64 1, .slice (some ⟨w.heap.size, 0, none⟩) 1 1, .slice none 0 0, .int .i64 2, .slice none 0 0, .slice none 0 0, .int .i64 1, .slice (some ⟨w.heap.size, 0, none⟩) 1 1, .slice none 0 0] 27
    rwa [sz, sz, sz] at this

theorem aw_fx (w : World) : FaAt (awW w) (.slice (some ⟨w.heap.size, 0, none⟩) 1 1) (.slice none 0 0) xFa := by
  refine ⟨.inr ⟨⟨w.heap.size, 0, none⟩, 1, rfl, fun j u hu => ?_⟩, .inl ⟨rfl, rfl⟩, by decide, by decide⟩
  match j with
  | 0 =>
    cases hu
    have e1 : (⟨w.heap.size, 0, none⟩ : Addr).add 0 = ⟨w.heap.size, 0, none⟩ := by unfold Addr.add; split <;> simp_all
    rw [e1]
    simp only [World.cell?, (awW_blocks w).1]
    rfl
  | j + 1 => simp [xFa] at hu

theorem aw_fy (w : World) : FaAt w (.slice none 0 0) (.slice none 0 0) yFa := ⟨.inl ⟨rfl, rfl⟩, .inl ⟨rfl, rfl⟩, by decide, by decide⟩

theorem aw_facts (w : World) : FactsAt (awW w) (.slice (some ⟨w.heap.size + 1 + 1 + 1, 0, none⟩) 3 3) (awRows w.heap.size) := by
  refine ⟨⟨_, _, rfl⟩, fun a n c hv i hi => ?_, fun x hx => ?_, by simp [awRows]⟩
  · cases hv
    refine ⟨_, rfl, ?_⟩
    have e1 : (⟨w.heap.size + 1 + 1 + 1, 0, none⟩ : Addr).add (i * 3) = ⟨w.heap.size + 1 + 1 + 1, i * 3, none⟩ := by unfold Addr.add; split <;> simp_all
    rw [e1]
    simp only [World.cell?, (awW_blocks w).2.2.2]
    match i, hi with
    | 0, _ => exact ⟨rfl, rfl, rfl⟩
    | 1, _ => exact ⟨rfl, rfl, rfl⟩
    | 2, _ => exact ⟨rfl, rfl, rfl⟩
    | i + 3, hi => exact absurd hi (by simp [awRows])
  · simp only [awRows, List.mem_cons, List.not_mem_nil, or_false] at hx
    rcases hx with rfl | rfl | rfl
    · exact aw_fx w
    · exact aw_fy _
    · exact aw_fx w

theorem aw_bag (w : World) : Calls Try.prog 16 #[.slice (some ⟨w.heap.size + 1 + 1 + 1, 0, none⟩) 3 3] (awW w) fun e w' => ∃ g c l, e = .returned (.slice (some ⟨g, 0, none⟩) 2 c) ∧ (AwAt w.heap.size g c l w' ∧ wu (sumN (l.map Ro.p)) = 3) ∧ Kept w w' := by
  refine (factBag_is _ _ _ (aw_facts w) (fun w0 wr g c rows h1 h2 h3 h4 => sort_few 3 (by decide) w0 wr g c rows h1 h2 h3 h4)).mono ?_
  rintro e w' ⟨v, l, rfl, ho, hb, hok, hk⟩
  have hfit : Fit ((awRows w.heap.size).map fun x => (x.f, 1)) := fun p hp => by
    simp only [awRows, List.map_cons, List.map_nil, List.mem_cons, List.not_mem_nil, or_false] at hp
    rcases hp with rfl | rfl | rfl <;> rfl
  have hl : l.map Ro.p = [(xFa, 2), (yFa, 1)] := (hb.own hfit).trans own_awake
  obtain ⟨r1, r2, rfl⟩ : ∃ r1 r2, l = [r1, r2] := by
    have hlen := congrArg List.length hl
    match l, hlen with
    | [r1, r2], _ => exact ⟨r1, r2, rfl⟩
  simp only [List.map_cons, List.map_nil, List.cons.injEq, and_true, Ro.p, Prod.mk.injEq] at hl
  obtain ⟨⟨f1, n1⟩, f2, n2⟩ := hl
  obtain ⟨g, c, rfl⟩ : ∃ g c, v = .slice (some ⟨g, 0, none⟩) 2 c := by
    rcases ho.2 with ⟨h, hn⟩ | ⟨g, cap, cur, h, _⟩
    · cases hn
    · exact ⟨g, cap, h⟩
  have c1 := (ho.cells (i := 0) (x := r1) rfl).1.2.2.2
  have c2 := (ho.cells (i := 1) (x := r2) rfl).1.2.2.2
  rw [n1] at c1
  rw [n2] at c2
  obtain ⟨b0, b1, b2, b3⟩ := awW_blocks w
  refine ⟨g, c, [r1, r2], rfl, ⟨⟨hk.cell ?_, hk.cell ?_, hk.cell ?_, hk.cell ?_, hk.cell ?_, hk.cell ?_, (aw_fx w).kept hk, (aw_fy w).kept ((awW_grows w).kept.trans hk), c1, c2, ho.rowsAt (fun x hx => (hok x hx).1.1) (by simp)⟩, ?_⟩, (awW_grows w).kept.trans hk⟩
  · simp only [World.cell?, b1]; rfl
  · simp only [World.cell?, b1]; rfl
  · simp only [World.cell?, b1]; rfl
  · simp only [World.cell?, b2]; rfl
  · simp only [World.cell?, b2]; rfl
  · simp only [World.cell?, b2]; rfl
  · simp only [List.map_cons, List.map_nil, Ro.p, n1, n2, sumN]; rfl

theorem aw_cmp {h g c : Nat} {l : List Ro} (V : World) (a : AwAt h g c l V) : Calls Try.prog 14 #[.agg #[.int .i64 1, .slice (some ⟨h, 0, none⟩) 1 1, .slice none 0 0], .agg #[.int .i64 2, .slice none 0 0, .slice none 0 0]] V fun e w' => e = .returned (.int .i64 (-1)) ∧ AwAt h g c l w' ∧ Grows V w' :=
  (compare_is xFa yFa _ _ _ _ V a.fx a.fy).mono fun _ _ ⟨he, hg⟩ => ⟨he, a.grows hg, hg⟩

theorem aw_count {h g c : Nat} {l : List Ro} (V : World) (a : AwAt h g c l V) (hs : wu (sumN (l.map Ro.p)) = 3) : Calls Try.prog 17 #[.slice (some ⟨g, 0, none⟩) 2 c] V fun e w' => e = .returned (.int .u64 3) ∧ AwAt h g c l w' ∧ Grows V w' :=
  (count_is _ l V a.rows).mono fun _ _ ⟨he, hg⟩ => ⟨by rw [he, hs], a.grows hg, hg⟩

theorem chk_x1 : chk 1 0 xFa = 0 := by rfl
theorem chk_x0 : chk 0 0 xFa = 40 := by rfl

theorem aw_chk1 {h g c : Nat} {l : List Ro} (V : World) (a : AwAt h g c l V) : Calls Try.prog 12 #[.agg #[.int .i64 1, .int .i64 0], .agg #[.int .i64 1, .slice (some ⟨h, 0, none⟩) 1 1, .slice none 0 0]] V fun e w' => e = .returned (.int .i64 0) ∧ AwAt h g c l w' ∧ Grows V w' :=
  (check_is 1 0 xFa _ _ V a.fx).mono fun _ _ ⟨he, hg⟩ => ⟨by rw [he, chk_x1], a.grows hg, hg⟩

theorem aw_chk0 {h g c : Nat} {l : List Ro} (V : World) (a : AwAt h g c l V) : Calls Try.prog 12 #[.agg #[.int .i64 0, .int .i64 0], .agg #[.int .i64 1, .slice (some ⟨h, 0, none⟩) 1 1, .slice none 0 0]] V fun e w' => e = .returned (.int .i64 40) ∧ AwAt h g c l w' ∧ Grows V w' :=
  (check_is 0 0 xFa _ _ V a.fx).mono fun _ _ ⟨he, hg⟩ => ⟨by rw [he, chk_x0], a.grows hg, hg⟩

set_option maxHeartbeats 1600000 in
set_option maxRecDepth 100000 in
theorem awake_is (w : World) : Calls Try.prog 9 #[] w fun e w' => e = .returned (.bool true) ∧ Kept w w' := by
  have h := aw_bag w
  unfold awW at h
  have H := Lib.hid h
  clear h
  go_enter Try.func9, Try.ntmps9
  go_wp2_with fail
  refine H.out.mono ?_
  rintro e w1 ⟨g, c, l, rfl, ⟨a1, hs⟩, hk⟩
  have HK := Lib.hid hk
  have HS := Lib.hid hs
  have A1 := Lib.hid a1
  obtain ⟨x0, x1, x2, y0, y1, y2, _, _, b0, b1, _⟩ := a1
  clear hk hs
  go_wp2_with fail
  refine (aw_cmp w1 A1.out).mono ?_
  rintro e w2 ⟨rfl, a2, g2⟩
  have A2 := Lib.hid a2
  have G2 := Lib.hid g2
  clear x0 x1 x2 y0 y1 y2 b0 b1 g2
  obtain ⟨x0, x1, x2, y0, y1, y2, _, _, b0, b1, _⟩ := a2
  go_wp2_with fail
  refine (aw_count w2 A2.out HS.out).mono ?_
  rintro e w3 ⟨rfl, a3, g3⟩
  have A3 := Lib.hid a3
  have G3 := Lib.hid g3
  clear x0 x1 x2 y0 y1 y2 b0 b1 g3
  obtain ⟨x0, x1, x2, y0, y1, y2, _, _, b0, b1, _⟩ := a3
  go_wp2_with fail
  refine (aw_chk1 w3 A3.out).mono ?_
  rintro e w4 ⟨rfl, a4, g4⟩
  have A4 := Lib.hid a4
  have G4 := Lib.hid g4
  clear x0 x1 x2 y0 y1 y2 b0 b1 g4
  obtain ⟨x0, x1, x2, y0, y1, y2, _, _, b0, b1, _⟩ := a4
  go_wp2_with fail
  refine (aw_chk0 w4 A4.out).mono ?_
  rintro e w5 ⟨rfl, a5, g5⟩
  have A5 := Lib.hid a5
  have G5 := Lib.hid g5
  clear x0 x1 x2 y0 y1 y2 b0 b1 g5
  obtain ⟨x0, x1, x2, y0, y1, y2, _, _, b0, b1, _⟩ := a5
  go_wp2_with fail
  go_ret
  exact ⟨rfl, HK.out.trans (((G2.out.trans G3.out).trans G4.out).trans G5.out).kept⟩

end Go.Proofs.Ytcbgnikbaepkaaa
