/- Bag. -/
import Derived.Test.YtcbgnikbaepkaaaY
import Derived.OwnWalk
namespace Go.Proofs.Ytcbgnikbaepkaaa
open Go.Shelf Go.RowKit Go.Lib Go.Sort Go.Proofs

theorem OwnRows.base {w : World} {b b' : Nat} {v : Value} {l : List Ro} (h : OwnRows w b v l) (hb : b' ≤ b) : OwnRows w b' v l := by
  refine ⟨h.1, ?_⟩
  rcases h.2 with h | ⟨g, cap, cur, h1, h2, r⟩
  · exact .inl h
  · exact .inr ⟨g, cap, cur, h1, Nat.le_trans hb h2, r⟩

theorem Apart.base {b b' g : Nat} {y : Ro} (h : Apart b g y) (hb : b' ≤ b) : Apart b' g y :=
  ⟨fun k e => ⟨Nat.le_trans hb (h.1 k e).1, (h.1 k e).2⟩, fun k e => ⟨Nat.le_trans hb (h.2 k e).1, (h.2 k e).2⟩⟩

theorem BagIs.base {w w1 w' : World} {ps : List (Fa × Int)} {e : Ending} (h : BagIs w1 ps e w') (hk : Kept w w1) : BagIs w ps e w' := by
  obtain ⟨v, l', h1, h2, h3, h4, h5⟩ := h
  exact ⟨v, l', h1, h2.base hk.size, h3, fun y hy => ⟨(h4 y hy).1, fun g hg => ((h4 y hy).2 g hg).base hk.size⟩, hk.trans h5⟩

theorem OwnRows.rowsAt {w : World} {base : Nat} {v : Value} {l : List Ro} (h : OwnRows w base v l) (hok : ∀ x ∈ l, x.ok w) (hl : l.length < 2199023255552) : RowsAt w v l := by
  refine ⟨h.slice, fun a n c hv i hi => ?_, hok, hl⟩
  subst hv
  rcases h.2 with ⟨he, hn⟩ | ⟨g, cap, cur, he, h1, h2, _⟩
  · rw [hn] at hi; simp at hi
  · cases he
    refine ⟨⟨g, 0, none⟩, rfl, fun j y hy => ?_⟩
    obtain ⟨⟨c0, c1, c2, c3⟩, _⟩ := h.cells (List.getElem?_eq_getElem hi)
    have e1 : (⟨g, 0, none⟩ : Addr).add (i * 4) = ⟨g, i * 4, none⟩ := by unfold Addr.add; split <;> simp_all
    have e2 : (⟨g, i * 4, none⟩ : Addr).add j = ⟨g, i * 4 + j, none⟩ := by unfold Addr.add; split <;> simp_all
    rw [e1, e2]
    match j with
    | 0 => cases hy; exact c0
    | 1 => cases hy; exact c1
    | 2 => cases hy; exact c2
    | 3 => cases hy; exact c3
    | j + 4 => simp [Ro.enc] at hy

/-- Facts as they come in. -/
structure FactsAt (w : World) (v : Value) (l : List Ro) : Prop where
  slice : ∃ a c, v = .slice a l.length c
  cells : ∀ a n c, v = .slice a n c → ∀ i, (hi : i < l.length) → ∃ A, a = some A ∧ w.cell? (A.add (i * 3)) = some (.int .i64 l[i].f.time) ∧ w.cell? ⟨(A.add (i * 3)).block, (A.add (i * 3)).off + 1, none⟩ = some l[i].d ∧ w.cell? ⟨(A.add (i * 3)).block, (A.add (i * 3)).off + 2, none⟩ = some l[i].m
  ok : ∀ x ∈ l, x.ok w
  len : l.length < 2199023255552

def Ro.one (x : Ro) : Ro := { x with n := 1 }

theorem all_is (x : Ro) (w : World) : Calls Try.prog 34 #[faV x.f.time x.d x.m] w fun e w' => e = .returned (.bool true) ∧ Grows w w' := by
  unfold faV
  go_enter Try.func34, Try.ntmps34
  go_wp2_with fail
  go_ret
  exact ⟨rfl, Grows.alloc _ _⟩

theorem flat_none (n : Nat) : (madeCells (Value.agg #[.int .i64 0, .slice none 0 0, .slice none 0 0, .int .u64 0]).cells (n * 4)).toList = flat (List.replicate n Ro.none) := by
  refine List.ext_getElem? fun t => ?_
  by_cases ht : t < n * 4
  · have hi : t / 4 < (List.replicate n Ro.none).length := by rw [List.length_replicate]; omega
    have hg := flat_get (List.replicate n Ro.none) (t / 4) (t % 4) hi (Nat.mod_lt _ (by decide))
    rw [show t / 4 * 4 + t % 4 = t by omega] at hg
    rw [hg, List.getElem_replicate]
    have h4 : (Value.agg #[.int .i64 0, .slice none 0 0, .slice none 0 0, .int .u64 0]).cells.size = 4 := rfl
    rw [List.getElem?_eq_getElem (by rw [Array.length_toList, size_madeCells]; exact ht)]
    simp only [madeCells, Array.toList_map, Array.toList_range, List.getElem_map, List.getElem_range, h4]
    rcases (show t % 4 = 0 ∨ t % 4 = 1 ∨ t % 4 = 2 ∨ t % 4 = 3 by omega) with h0 | h0 | h0 | h0 <;> rw [h0] <;> rfl
  · rw [List.getElem?_eq_none (by rw [Array.length_toList, size_madeCells]; omega), List.getElem?_eq_none (by rw [flat_length, List.length_replicate]; omega)]

/-- The state of Bag's loop: k facts stand in the rows. -/
def Laid (w : World) (g : Nat) (l : List Ro) (k : Nat) (wr : World) : Prop :=
  Kept w wr ∧ ∃ now : List Ro, OwnRows wr w.heap.size (.slice (some ⟨g, 0, none⟩) l.length l.length) now ∧ now.length = l.length ∧ now.take k = (l.take k).map Ro.one

theorem Laid.step {w wr w2 : World} {g k : Nat} {l : List Ro} {x : Ro} (h : Laid w g l k wr) (hx : l[k]? = some x) (hg : Grows wr w2) :
    Laid w g l (k + 1) ((((w2.setCell ⟨g, k * 4, none⟩ (.int .i64 x.f.time)).setCell ⟨g, k * 4 + 1, none⟩ (.slice x.da x.dn x.dc)).setCell ⟨g, k * 4 + 2, none⟩ (.slice x.ma x.mn x.mc)).setCell ⟨g, k * 4 + 3, none⟩ (.int .u64 1)) := by
  obtain ⟨h1, now, h2, h3, h4⟩ := h
  obtain ⟨hk, rfl⟩ := List.getElem?_eq_some_iff.1 hx
  have hn : k < now.length := by omega
  have hs := (h2.grows hg).set hn l[k].one
  refine ⟨Moved.kept h1 ((hg.kept.moved g).trans (moved_set4 g (k * 4) w2 _ _ _ _)) (h2.lt (k := g) rfl).1, now.set k l[k].one, hs, by simpa using h3, ?_⟩
  rw [List.take_succ_eq_append_getElem (by simpa using hn), List.take_set_of_le (Nat.le_refl _), h4, List.getElem_set_self, List.take_succ_eq_append_getElem hk]
  simp only [List.map_append, List.map_cons, List.map_nil]

set_option maxHeartbeats 1600000 in
set_option maxRecDepth 100000 in
theorem factBag_is (v : Value) (l : List Ro) (w : World) (h : FactsAt w v l)
    (hsort : ∀ (w0 wr : World) (g c : Nat) (rows : List Ro), Kept w0 wr → OwnRows wr w0.heap.size (.slice (some ⟨g, 0, none⟩) rows.length c) rows → (∀ x ∈ rows, x.ok w0) → rows.length ≤ l.length →
      Calls Try.prog 45 #[.slice (some ⟨g, 0, none⟩) rows.length c, .func (.func 46) #[] #[]] wr (Sorts w0 w0.heap.size g rows.length c rows wr)) :
    Calls Try.prog 16 #[v] w (BagIs w (l.map fun x => (x.f, 1))) := by
  obtain ⟨a, c, rfl⟩ := h.slice
  have hlen := h.len
  have HSORT := Lib.hid hsort
  have HF := Lib.hid h
  obtain ⟨i0, hi, hz0, hz1, hz2⟩ := info_parts Try.info40
  clear hsort h
  go_enter Try.func16, Try.ntmps16
  go_wp2_with ((refine wpList_make_full _ rfl _ _ 36 rfl w.heap.size 40 i0 _ 4 Try.underlying36 hi hz0 hz1 _ _ _ _ l.length rfl rfl rfl rfl (by rw [hz2]; omega) (by unfold maxLen; omega) (Nat.le_refl _) ?_; intro w1 ho hgb))
  have hl0 : Laid w w.heap.size l 0 w1 := by
    rw [flat_none] at ho
    have ho2 : OwnRows w1 w.heap.size (.slice (some ⟨w.heap.size, 0, none⟩) l.length l.length) (List.replicate l.length Ro.none) := by
      unfold OwnRows; rw [List.length_replicate]; exact ho
    exact ⟨⟨hgb.os, hgb.tape, hgb.output, hgb.size, fun k hk => hgb.block k hk (by simp)⟩, _, ho2, by simp, rfl⟩
  have HL0 := Lib.hid hl0
  clear ho hgb hl0 hi hz0 hz1 hz2
  go_loopw [4, 5, 11] (fun _ _ i wr => ∃ k : Nat, k ≤ l.length ∧ i = .int .i64 k ∧ Laid w w.heap.size l k wr) (fun _ _ i _ => l.length - (intOf i).toNat)
  case atStart => exact ⟨0, by omega, rfl, HL0.out⟩
  case round =>
    obtain ⟨k, hk, rfl, hld⟩ := hrel
    have HL := Lib.hid hld
    by_cases hlt : k < l.length
    · obtain ⟨A, rfl, x0, x1, x2⟩ := HF.out.cells _ _ _ rfl k hlt
      obtain ⟨x, hx⟩ : ∃ x, l[k]? = some x := ⟨_, List.getElem?_eq_getElem hlt⟩
      have hxe : l[k] = x := (List.getElem?_eq_some_iff.1 hx).2
      rw [hxe] at x0 x1 x2
      have y0 := hld.1.cell x0
      have y1 : wr.cell? _ = some (.slice x.da x.dn x.dc) := hld.1.cell x1
      have y2 : wr.cell? _ = some (.slice x.ma x.mn x.mc) := hld.1.cell x2
      have HX := Lib.hid hx
      obtain ⟨U, hU⟩ : ∃ U, U = wr.alloc (.cells #[.int .i64 x.f.time, .slice x.da x.dn x.dc, .slice x.ma x.mn x.mc] 27) := ⟨_, rfl⟩
      have gU : Grows wr U := by rw [hU]; exact Grows.alloc _ _
      obtain ⟨h1, now, h2, h3, h4⟩ := hld
      obtain ⟨z, ⟨z0, z1, z2, z3⟩, f0, f1, f2, f3⟩ := (h2.grows gU).there (i := k) (by omega)
      have hst := HL.out.step hx gU
      rw [hU] at z0 z1 z2 z3 f0 f1 f2 f3 hst
      have HST := Lib.hid hst
      clear x0 x1 x2 hx hxe h1 h2 h3 h4 hU gU hst
      go_wp2_with fail
      go_roundw
      case rel => exact ⟨k + 1, by omega, by go_num, HST.out⟩
      case measure => simp [intOf]; omega
    · obtain rfl : k = l.length := by omega
      obtain ⟨h1, now, h2, h3, h4⟩ := hld
      have hnow : now = l.map Ro.one := by
        rw [List.take_length] at h4
        rw [← h4, ← h3, List.take_length]
      subst hnow
      have hrows := h2.rowsAt (fun y hy => by
        obtain ⟨x, hx, rfl⟩ := List.mem_map.1 hy
        exact FaAt.kept (HF.out.ok x hx) h1) (by simpa using hlen)
      have hall : ∀ V, Kept wr V → ∀ x, Ro.ok wr x → Calls Try.prog 34 (#[faV x.f.time x.d x.m] ++ #[]) V fun e w' => e = .returned (.bool true) ∧ Grows V w' := fun V _ x _ => all_is x V
      have hbag := bag_is _ _ wr (fun _ => true) 34 #[] hrows hall (fun wq g c rows hk ho hr hn => HSORT.out wr wq g c rows hk ho hr (by simpa using hn)) (fun args W => enters_of Try.func34 (by kernel_rfl) rfl args W)
      have hps : taken (fun _ => true) (l.map Ro.one) = l.map fun x => (x.f, 1) := by
        unfold taken
        rw [List.filter_eq_self.2 (fun _ _ => rfl), List.map_map]
        rfl
      rw [hps] at hbag
      have HB := Lib.hid hbag
      have HK := Lib.hid h1
      clear h1 h2 h3 h4 hrows hall hbag hps
      go_wp2_with fail
      refine HB.out.mono ?_
      intro e w2 hb
      have hb2 := BagIs.base hb HK.out
      have HB2 := Lib.hid hb2
      obtain ⟨v, l', rfl, _⟩ := hb
      clear hb2
      go_wp2_with fail
      go_ret
      exact HB2.out

end Go.Proofs.Ytcbgnikbaepkaaa
