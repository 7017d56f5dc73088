/- DeleteFunc, walked. -/
import Derived.Test.YtcbgnikbaepkaaaV
namespace Go.Proofs.Ytcbgnikbaepkaaa
open Go.Shelf Go.RowKit Go.Lib Go.Sort Go.Proofs

def DelIs (base g c : Nat) (l : List Ro) (w : World) (e : Ending) (w' : World) : Prop :=
  e = .returned (.slice (some ⟨g, 0, none⟩) (l.filter nz).length c) ∧ OwnRows w' base (.slice (some ⟨g, 0, none⟩) (l.filter nz).length c) (l.filter nz) ∧ Moved g w w'

theorem filter_all {l : List Ro} (h : ∀ x ∈ l, nz x = true) : l.filter nz = l := List.filter_eq_self.2 h

theorem OwnRows.front {w : World} {base g n c : Nat} {l : List Ro} (h : OwnRows w base (.slice (some ⟨g, 0, none⟩) n c) l) {k : Nat} (hk : k ≤ l.length) : OwnRows w base (.slice (some ⟨g, 0, none⟩) k c) (l.take k) := by
  refine ⟨flat_length _, ?_⟩
  have hl : (l.take k).length = k := by rw [List.length_take]; omega
  rcases h.2 with ⟨he, _⟩ | ⟨g', cap, cur, he, h1, h2, h3, h4, h5, h6⟩
  · cases he
  · cases he
    refine .inr ⟨g, c, cur, by rw [hl], h1, h2, by omega, h4, h5, ?_⟩
    have hf : flat l = flat (l.take k) ++ flat (l.drop k) := by
      unfold flat
      rw [← List.flatMap_append, List.take_append_drop]
    have hk4 : (flat (l.take k)).length = k * 4 := by rw [flat_length, hl]
    have e : cur.toList.take (k * 4) = (cur.toList.take (l.length * 4)).take (k * 4) := by
      rw [List.take_take, Nat.min_eq_left (by omega)]
    rw [hl, e, h6, hf, List.take_left' hk4]

theorem setCells_block (g : Nat) (e : TypeId) (z : Nat × Nat) (m : Nat) (vs : List Value) : ∀ (o : Nat) (w : World) (cur : Array Value), m ≤ o → w.heap[g]? = some (.cells cur e z) →
    ∃ cur', (w.setCells g o vs).heap[g]? = some (.cells cur' e z) ∧ cur'.size = cur.size ∧ cur'.toList.take m = cur.toList.take m := by
  induction vs with
  | nil => intro o w cur _ h; exact ⟨cur, h, rfl, rfl⟩
  | cons v vs ih =>
    intro o w cur ho h
    obtain ⟨cur', h1, h2, h3⟩ := ih (o + 1) (w.setCell ⟨g, o, none⟩ v) (cur.setIfInBounds o v) (by omega) (heap_setCell_at h v)
    refine ⟨cur', h1, by simpa using h2, ?_⟩
    rw [h3, Array.toList_setIfInBounds, List.take_set_of_le ho]

theorem OwnRows.clear {w : World} {base g c : Nat} {l : List Ro} (h : OwnRows w base (.slice (some ⟨g, 0, none⟩) l.length c) l) {k : Nat} (hk : k ≤ l.length) (vs : List Value) : OwnRows (w.setCells g (k * 4) vs) base (.slice (some ⟨g, 0, none⟩) k c) (l.take k) := by
  have hf := h.front hk
  refine ⟨hf.1, ?_⟩
  rcases hf.2 with ⟨he, _⟩ | ⟨g', cap, cur, he, h1, h2, h3, h4, h5, h6⟩
  · cases he
  · have hl : (l.take k).length = k := by rw [List.length_take]; omega
    injection he with e1 e2 e3
    injection e1 with e1
    injection e1 with e1
    subst e1 e3
    obtain ⟨cur', b1, b2, b3⟩ := setCells_block g 40 (0, 0) (k * 4) vs (k * 4) w cur (Nat.le_refl _) h2
    refine .inr ⟨g, c, cur', by rw [hl], h1, b1, h3, h4, by rw [b2, h5], ?_⟩
    rw [hl] at h6 ⊢
    rw [b3, h6]

theorem OwnRows.has {w : World} {base g c : Nat} {l : List Ro} (h : OwnRows w base (.slice (some ⟨g, 0, none⟩) l.length c) l) {j : Nat} (hj : j < l.length * 4) : (w.cell? ⟨g, j, none⟩).isSome = true ∧ w.frozen? ⟨g, j, none⟩ = false := by
  have hi : j / 4 < l.length := by omega
  obtain ⟨⟨c0, c1, c2, c3⟩, hf⟩ := h.cells (List.getElem?_eq_getElem hi)
  refine ⟨?_, hf _⟩
  have hm : j % 4 < 4 := Nat.mod_lt _ (by decide)
  have e : j = j / 4 * 4 + j % 4 := by omega
  rcases (show j % 4 = 0 ∨ j % 4 = 1 ∨ j % 4 = 2 ∨ j % 4 = 3 by omega) with h0 | h0 | h0 | h0 <;> rw [e, h0]
  · rw [Nat.add_zero, c0]; rfl
  · rw [c1]; rfl
  · rw [c2]; rfl
  · rw [c3]; rfl

theorem delete_end {w wr : World} {base g c i : Nat} {l : List Ro} (h : Struck w base g c l i l.length wr) : i = (l.filter nz).length ∧ OwnRows wr base (.slice (some ⟨g, 0, none⟩) (l.filter nz).length c) (l.filter nz) ∧ Moved g w wr := by
  obtain ⟨now, h1, h2, h3, h4, h5, h6, h7⟩ := h
  rw [List.take_length] at h6
  have e : i = (l.filter nz).length := by rw [← h6, List.length_take]; omega
  refine ⟨e, ?_, h7⟩
  rw [← h6] at e ⊢
  have := h1.front (k := i) (by omega)
  rwa [← e]

set_option maxHeartbeats 1600000 in
set_option maxRecDepth 100000 in
theorem delete_is {w : World} {base g c : Nat} (l : List Ro) (ho : OwnRows w base (.slice (some ⟨g, 0, none⟩) l.length c) l) (hsz : l.length ≤ 4611686018427387904) :
    Calls Try.prog 48 #[.slice (some ⟨g, 0, none⟩) l.length c, .func (.func 49) #[] #[]] w (DelIs base g c l w) := by
  have hix := index_is l ho hsz
  have HIX := Lib.hid hix
  have HO := Lib.hid ho
  clear ho hix
  go_enter Try.func48, Try.ntmps48
  go_wp2_with fail
  refine HIX.out.mono ?_
  rintro e w1 ⟨hg1, ⟨rfl, hall⟩ | ⟨i, rfl, hi, hz, hpre⟩⟩
  · have G1 := Lib.hid hg1
    have HA := Lib.hid hall
    clear hg1 hall
    go_wp2_with fail
    go_ret
    exact ⟨by rw [filter_all HA.out]; rfl, by rw [filter_all HA.out]; exact HO.out.grows G1.out, G1.out.kept.moved g⟩
  · have hst : Struck w base g c l i (i + 1) w1 := by
      refine ⟨l, HO.out.grows hg1, rfl, by omega, hi, rfl, ?_, hg1.kept.moved g⟩
      have hx : l[i]? = some l[i] := List.getElem?_eq_getElem hi
      rw [take_filter_nz hx, hz _ hx]
      simp [filter_all hpre]
    have H1 := Lib.hid hst
    have HZ := Lib.hid hz
    have HP := Lib.hid hpre
    clear hg1 hz hpre hst
    have hne : ((i : Int) == -1) = false := by simp
    go_wp2_with fail
    go_loopw [5, 6] (fun a b wr => ∃ i j : Nat, a = .int .i64 i ∧ b = .int .i64 j ∧ i < j ∧ j ≤ l.length ∧ Struck w base g c l i j wr) (fun _ b _ => l.length - (intOf b).toNat)
    case atStart => exact ⟨i, i + 1, rfl, rfl, by omega, by omega, H1.out⟩
    case round =>
      obtain ⟨i2, j, rfl, rfl, hij, hj, hst⟩ := hrel
      have HS := Lib.hid hst
      by_cases hlt : j < l.length
      · obtain ⟨x, hx⟩ : ∃ x, l[j]? = some x := ⟨_, List.getElem?_eq_getElem hlt⟩
        obtain ⟨x0, x1, x2, x3⟩ := hst.row hx
        have hc := fun V => isZero_is x V
        have HC := Lib.hid hc
        have HX := Lib.hid hx
        obtain ⟨q, hq⟩ : ∃ q, q = (x.n == 0) := ⟨_, rfl⟩
        have HQ := Lib.hid hq
        clear hst hx hc hq
        go_wp2_with fail
        obtain ⟨U, hU⟩ : ∃ U, U = wr.alloc (.cells #[.int .i64 x.f.time, .slice x.da x.dn x.dc, .slice x.ma x.mn x.mc, .int .u64 x.n] 40) := ⟨_, rfl⟩
        have gU : Grows wr U := by rw [hU]; exact Grows.alloc _ _
        have bU : U.heap[wr.heap.size]? = some (.cells #[.int .i64 x.f.time, .slice x.da x.dn x.dc, .slice x.ma x.mn x.mc, .int .u64 x.n] 40 (0, 0)) := by rw [hU]; exact (MapKept.heap_alloc _ _).1
        rw [← hU]
        have BU := Lib.hid bU
        refine (HC.out U).mono ?_
        rintro e w2 ⟨rfl, hg2⟩
        rw [← HQ.out]
        have g3 := gU.trans hg2
        have hb2 := (hg2.block _ (Array.getElem?_eq_some_iff.1 BU.out).1).trans BU.out
        have y0 : w2.cell? ⟨wr.heap.size, 0, none⟩ = some (.int .i64 x.f.time) := by simp only [World.cell?, hb2]; rfl
        have y1 : w2.cell? ⟨wr.heap.size, 1, none⟩ = some (.slice x.da x.dn x.dc) := by simp only [World.cell?, hb2]; rfl
        have y2 : w2.cell? ⟨wr.heap.size, 2, none⟩ = some (.slice x.ma x.mn x.mc) := by simp only [World.cell?, hb2]; rfl
        have y3 : w2.cell? ⟨wr.heap.size, 3, none⟩ = some (.int .u64 x.n) := by simp only [World.cell?, hb2]; rfl
        have G3 := Lib.hid g3
        clear hU gU bU hg2 hb2 g3 x0 x1 x2 x3
        cases q
        · obtain ⟨now, n1, n2, n3, n4, n5, n6, n7⟩ := HS.out
          have hi2 : i2 < now.length := by omega
          obtain ⟨z, ⟨z0, z1, z2, z3⟩, f0, f1, f2, f3⟩ := (n1.grows G3.out).there hi2
          have hil : i2 < l.length := by omega
          have hst2 := HS.out.store HX.out (by unfold nz; rw [← HQ.out]; rfl) G3.out hij
          have H2 := Lib.hid hst2
          clear n1 n2 n3 n4 n5 n6 n7 hst2 hi2
          go_wp2_with fail
          go_roundw
          case rel => exact ⟨i2 + 1, j + 1, by go_num, by go_num, by omega, by omega, H2.out⟩
          case measure => simp [intOf]; omega
        · have hst2 := HS.out.skip HX.out (by unfold nz; rw [← HQ.out]; rfl) G3.out
          have H2 := Lib.hid hst2
          clear hst2
          go_wp2_with fail
          go_roundw
          case rel => exact ⟨i2, j + 1, rfl, by go_num, by omega, by omega, H2.out⟩
          case measure => simp [intOf]; omega
      · obtain rfl : j = l.length := by omega
        clear hst
        obtain ⟨now, n1, n2, n3, n4, n5, n6, n7⟩ := HS.out
        obtain ⟨m, hm⟩ : ∃ m, l.length - i2 = m + 1 := ⟨l.length - i2 - 1, by omega⟩
        have hcl : ∀ ty, (Builtin.clear_ #[36] ty #[.slice (some ⟨g, i2 * 4, none⟩) (l.length - i2) (c - i2)]).run Try.prog wr = .ok (.tuple #[]) (wr.setCells g (i2 * 4) (zeroRows (m + 1))) := by
          intro ty
          rw [hm]
          refine run_clear_rows wr ty g (i2 * 4) m (c - i2) (fun j hj => ?_) (fun j hj => ?_)
          · rw [← n2] at n1 hm; exact (n1.has (j := i2 * 4 + j) (by omega)).1
          · rw [← n2] at n1 hm; exact (n1.has (j := i2 * 4 + j) (by omega)).2
        have hfin : i2 = (l.filter nz).length ∧ OwnRows (wr.setCells g (i2 * 4) (zeroRows (m + 1))) base (.slice (some ⟨g, 0, none⟩) i2 c) (l.filter nz) ∧ Moved g w (wr.setCells g (i2 * 4) (zeroRows (m + 1))) := by
          rw [List.take_length] at n6
          rw [← n2] at n1
          refine ⟨by rw [← n6, List.length_take]; omega, ?_, n7.trans (moved_setCells g _ _ _)⟩
          rw [← n6]
          exact n1.clear (by omega) _
        have hcap : l.length ≤ c := by
          rcases n1.2 with ⟨he, _⟩ | ⟨g', cap, cur, he, h1, h2, h3, h4, h5, h6⟩
          · cases he
          · injection he with e1 e2 e3
            omega
        obtain ⟨W3, hW3⟩ : ∃ W3, W3 = wr.setCells g (i2 * 4) (zeroRows (m + 1)) := ⟨_, rfl⟩
        rw [← hW3] at hcl hfin
        have HF := Lib.hid hfin
        have hc0 : (0 : Int) ≤ (i2 : Int) := by omega
        have hc1 : i2 ≤ l.length := by omega
        have hc2 : i2 ≤ c := by omega
        clear n1 n2 n3 n4 n5 n6 n7 hm hfin hW3
        go_wp2_with fail
        go_ret
        exact ⟨by rw [← HF.out.1]; rfl, by rw [← HF.out.1]; exact HF.out.2.1, HF.out.2.2⟩

end Go.Proofs.Ytcbgnikbaepkaaa
