/- The document's Within, walked. -/
import Derived.Test.YtcbgnikbaepkaaaPd
namespace Go.Proofs.Ytcbgnikbaepkaaa
open Go.Shelf Go.RowKit Go.Lib Go.Sort Go.Proofs

/-- Is the time of the span? -/
def inS (fr to t : Int) : Bool := decide (fr ≤ t) && decide (t < to)

def tW (fr to : Int) (b : Bool) (x : Ro) : Bool := inS fr to x.f.time == b

theorem ownP_length (l : Ps) : (ownP l).length ≤ l.length := by
  have key : ∀ (l b : Ps), (l.foldl (fun b p => putP p.1 p.2 b) b).length ≤ b.length + l.length := by
    intro l
    induction l with
    | nil => intro b; simp
    | cons x l ih =>
      intro b
      have h1 := putP_length x.1 x.2 b
      have := ih (putP x.1 x.2 b)
      simp only [List.foldl_cons, List.length_cons]
      omega
  have h1 := key l []
  have h2 : (ownP l).length ≤ (ownAll l).length := List.length_filter_le _ _
  unfold ownAll at h2
  simp only [List.length_nil, Nat.zero_add] at h1
  omega

set_option maxHeartbeats 8000000 in
set_option maxRecDepth 100000 in
theorem refWithin_true (a : Option Addr) (len c : Nat) (l : List Ro) (fr to : Int) (w : World) (h : RowsAt w (.slice a len c) l) (hlen : len = l.length) (hl : l.length < 1099511627776) :
    Calls Try.prog 20 #[.slice a len c, .agg #[.int .i64 fr, .int .i64 to], .bool true] w (RefIs w ((ownP (l.map Ro.p)).filter fun q => inS fr to q.1.time == true)) := by
  obtain ⟨W, hW⟩ : ∃ W, W = w.alloc (.cells #[.int .i64 fr, .int .i64 to] 44) := ⟨_, rfl⟩
  have gW : Grows w W := by rw [hW]; exact Grows.alloc _ _
  have bW : W.heap[w.heap.size]? = some (.cells #[.int .i64 fr, .int .i64 to] 44 (0, 0)) := by rw [hW]; exact (MapKept.heap_alloc _ _).1
  have hown := refOwn_is a len c l W (h.kept gW.kept) hlen hl
  have HOWN := Lib.hid hown
  have HW := Lib.hid hW
  have GW := Lib.hid gW
  have BW := Lib.hid bW
  clear h hlen hW gW bW hown
  go_enter Try.func20, Try.ntmps20
  go_wp2_with fail
  rw [← HW.out]
  refine HOWN.out.mono ?_
  rintro e w1 ⟨ab, nb, cb, lb, rfl, ⟨hnb, hob, hpb, hkb⟩, hk1⟩
  have hlb : lb.length < 1099511627776 := by
    have h1 := ownP_length (l.map Ro.p)
    have h2 := congrArg List.length hpb
    simp only [List.length_map] at h1 h2
    omega
  have hnb2 : nb < 1099511627776 := by omega
  have HNB := Lib.hid hnb
  have HOB := Lib.hid hob
  have HPB := Lib.hid hpb
  have HKB := Lib.hid hkb
  have HK1 := Lib.hid (GW.out.kept.trans hk1)
  have BW1 := Lib.hid ((hk1.block _ (Array.getElem?_eq_some_iff.1 BW.out).1).trans BW.out)
  have HK0 := Lib.hid (show Took w1 (tW fr to true) lb 0 (.slice none 0 0) w1 from ⟨OwnRows.nil _ _, Kept.refl _⟩)
  clear hnb hob hpb hkb hk1
  go_wp2_with fail
  go_loopw [7, 9, 10] (fun vo vj _ wr => ∃ j : Nat, vj = .int .i64 j ∧ j ≤ nb ∧ Hid (Took w1 (tW fr to true) lb j vo wr)) (fun _ vj _ _ => nb - (intOf vj).toNat)
  case atStart => exact ⟨0, rfl, by omega, HK0⟩
  case round =>
    obtain ⟨j, rfl, hj, HT⟩ := hrel
    by_cases hlt2 : j < nb
    · have k2 : j < lb.length := by have := HNB.out; omega
      have hrb := HOB.out.rowsAt HKB.out (by omega)
      obtain ⟨A, rfl⟩ := rows_some hrb k2
      obtain ⟨x, hx⟩ : ∃ x, lb[j]? = some x := ⟨_, List.getElem?_eq_getElem k2⟩
      obtain ⟨x0, x1, x2, x3, xo⟩ := rows_kept hrb HT.out.2 hx
      have q1 : (j : Int) < (nb : Int) := by omega
      have hbw := (HT.out.2.block _ (Array.getElem?_eq_some_iff.1 BW1.out).1).trans BW1.out
      have s0 : wr.cell? ⟨w.heap.size, 0, none⟩ = some (.int .i64 fr) := by simp only [World.cell?, hbw]; rfl
      have s1 : wr.cell? ⟨w.heap.size, 1, none⟩ = some (.int .i64 to) := by simp only [World.cell?, hbw]; rfl
      have HX := Lib.hid hx
      clear hx k2 hrb xo hbw
      by_cases h1 : fr ≤ x.f.time
      · have i1 : decide (fr ≤ x.f.time) = true := decide_eq_true h1
        by_cases h2 : x.f.time < to
        · have i2 : decide (x.f.time < to) = true := decide_eq_true h2
          have hin : tW fr to true x = true := by unfold tW inS; rw [i1, i2]; rfl
          have HIN := Lib.hid hin
          have hfl : ((lb.take j).filter (tW fr to true)).length < 2199023255552 := Nat.lt_of_le_of_lt (List.length_filter_le _ _) (by rw [List.length_take]; omega)
          have hb1 : w1.heap.size ≤ wr.heap.size := HT.out.2.size
          clear hin
          go_wp2_with (at_builtin; refine wpList_append_row' rfl _ _ rfl wr w1.heap.size u7 ((lb.take j).filter (tW fr to true)) rfl HT.out.1 x rfl hfl hb1 ?_; intro a4 c4 w4 ho4 hg4 hl4; have T4 := Lib.hid (show Took w1 (tW fr to true) lb (j + 1) (.slice a4 (((lb.take j).filter (tW fr to true)).length + 1) c4) w4 from ⟨by rw [took_take HX.out, if_pos HIN.out]; exact ho4, kept_grownBy (HT.out.2.trans (Grows.alloc wr _).kept) hg4 (fun k e => (HT.out.1.lt e).1)⟩); clear ho4 hg4 hl4)
          go_roundw
          case rel => exact ⟨j + 1, by go_num, hlt2, T4⟩
          case measure => simp [intOf]; omega
        · have i2 : decide (x.f.time < to) = false := decide_eq_false h2
          have hin : tW fr to true x = false := by unfold tW inS; rw [i1, i2]; rfl
          have HIN := Lib.hid hin
          clear hin
          go_wp2_with fail
          go_roundw
          case rel =>
            refine ⟨j + 1, by go_num, hlt2, ⟨?_, HT.out.2⟩⟩
            rw [took_take HX.out, if_neg (by rw [HIN.out]; decide), List.append_nil]
            exact HT.out.1
          case measure => simp [intOf]; omega
      · have i1 : decide (fr ≤ x.f.time) = false := decide_eq_false h1
        have hin : tW fr to true x = false := by unfold tW inS; rw [i1]; rfl
        have HIN := Lib.hid hin
        clear hin
        go_wp2_with fail
        go_roundw
        case rel =>
          refine ⟨j + 1, by go_num, hlt2, ⟨?_, HT.out.2⟩⟩
          rw [took_take HX.out, if_neg (by rw [HIN.out]; decide), List.append_nil]
          exact HT.out.1
        case measure => simp [intOf]; omega
    · obtain rfl : j = nb := by omega
      have hfin : OwnRows wr w1.heap.size u7 (lb.filter (tW fr to true)) := by
        have := HT.out.1
        rwa [List.take_of_length_le (by have := HNB.out; omega)] at this
      obtain ⟨a5, c5, h5⟩ := hfin.slice
      have HFIN := Lib.hid (show RefIs w ((ownP (l.map Ro.p)).filter fun q => inS fr to q.1.time == true) (.returned u7) wr from by
        rw [h5] at hfin ⊢
        refine ⟨a5, _, c5, _, rfl, ⟨rfl, hfin.base HK1.out.size, ?_, fun y hy => ?_⟩, HK1.out.trans HT.out.2⟩
        · rw [← HPB.out, List.filter_map]; rfl
        · exact FaAt.kept (HKB.out y (List.mem_filter.1 hy).1) HT.out.2)
      clear hfin h5
      go_wp2_with fail
      go_ret
      exact HFIN.out

set_option maxHeartbeats 8000000 in
set_option maxRecDepth 100000 in
theorem refWithin_false (a : Option Addr) (len c : Nat) (l : List Ro) (fr to : Int) (w : World) (h : RowsAt w (.slice a len c) l) (hlen : len = l.length) (hl : l.length < 1099511627776) :
    Calls Try.prog 20 #[.slice a len c, .agg #[.int .i64 fr, .int .i64 to], .bool false] w (RefIs w ((ownP (l.map Ro.p)).filter fun q => inS fr to q.1.time == false)) := by
  obtain ⟨W, hW⟩ : ∃ W, W = w.alloc (.cells #[.int .i64 fr, .int .i64 to] 44) := ⟨_, rfl⟩
  have gW : Grows w W := by rw [hW]; exact Grows.alloc _ _
  have bW : W.heap[w.heap.size]? = some (.cells #[.int .i64 fr, .int .i64 to] 44 (0, 0)) := by rw [hW]; exact (MapKept.heap_alloc _ _).1
  have hown := refOwn_is a len c l W (h.kept gW.kept) hlen hl
  have HOWN := Lib.hid hown
  have HW := Lib.hid hW
  have GW := Lib.hid gW
  have BW := Lib.hid bW
  clear h hlen hW gW bW hown
  go_enter Try.func20, Try.ntmps20
  go_wp2_with fail
  rw [← HW.out]
  refine HOWN.out.mono ?_
  rintro e w1 ⟨ab, nb, cb, lb, rfl, ⟨hnb, hob, hpb, hkb⟩, hk1⟩
  have hlb : lb.length < 1099511627776 := by
    have h1 := ownP_length (l.map Ro.p)
    have h2 := congrArg List.length hpb
    simp only [List.length_map] at h1 h2
    omega
  have hnb2 : nb < 1099511627776 := by omega
  have HNB := Lib.hid hnb
  have HOB := Lib.hid hob
  have HPB := Lib.hid hpb
  have HKB := Lib.hid hkb
  have HK1 := Lib.hid (GW.out.kept.trans hk1)
  have BW1 := Lib.hid ((hk1.block _ (Array.getElem?_eq_some_iff.1 BW.out).1).trans BW.out)
  have HK0 := Lib.hid (show Took w1 (tW fr to false) lb 0 (.slice none 0 0) w1 from ⟨OwnRows.nil _ _, Kept.refl _⟩)
  clear hnb hob hpb hkb hk1
  go_wp2_with fail
  go_loopw [7, 9, 10] (fun vo vj _ wr => ∃ j : Nat, vj = .int .i64 j ∧ j ≤ nb ∧ Hid (Took w1 (tW fr to false) lb j vo wr)) (fun _ vj _ _ => nb - (intOf vj).toNat)
  case atStart => exact ⟨0, rfl, by omega, HK0⟩
  case round =>
    obtain ⟨j, rfl, hj, HT⟩ := hrel
    by_cases hlt2 : j < nb
    · have k2 : j < lb.length := by have := HNB.out; omega
      have hrb := HOB.out.rowsAt HKB.out (by omega)
      obtain ⟨A, rfl⟩ := rows_some hrb k2
      obtain ⟨x, hx⟩ : ∃ x, lb[j]? = some x := ⟨_, List.getElem?_eq_getElem k2⟩
      obtain ⟨x0, x1, x2, x3, xo⟩ := rows_kept hrb HT.out.2 hx
      have q1 : (j : Int) < (nb : Int) := by omega
      have hbw := (HT.out.2.block _ (Array.getElem?_eq_some_iff.1 BW1.out).1).trans BW1.out
      have s0 : wr.cell? ⟨w.heap.size, 0, none⟩ = some (.int .i64 fr) := by simp only [World.cell?, hbw]; rfl
      have s1 : wr.cell? ⟨w.heap.size, 1, none⟩ = some (.int .i64 to) := by simp only [World.cell?, hbw]; rfl
      have HX := Lib.hid hx
      clear hx k2 hrb xo hbw
      by_cases h1 : fr ≤ x.f.time
      · have i1 : decide (fr ≤ x.f.time) = true := decide_eq_true h1
        by_cases h2 : x.f.time < to
        · have i2 : decide (x.f.time < to) = true := decide_eq_true h2
          have hin : tW fr to false x = false := by unfold tW inS; rw [i1, i2]; rfl
          have HIN := Lib.hid hin
          clear hin
          go_wp2_with fail
          go_roundw
          case rel =>
            refine ⟨j + 1, by go_num, hlt2, ⟨?_, HT.out.2⟩⟩
            rw [took_take HX.out, if_neg (by rw [HIN.out]; decide), List.append_nil]
            exact HT.out.1
          case measure => simp [intOf]; omega
        · have i2 : decide (x.f.time < to) = false := decide_eq_false h2
          have hin : tW fr to false x = true := by unfold tW inS; rw [i1, i2]; rfl
          have HIN := Lib.hid hin
          have hfl : ((lb.take j).filter (tW fr to false)).length < 2199023255552 := Nat.lt_of_le_of_lt (List.length_filter_le _ _) (by rw [List.length_take]; omega)
          have hb1 : w1.heap.size ≤ wr.heap.size := HT.out.2.size
          clear hin
          go_wp2_with (at_builtin; refine wpList_append_row' rfl _ _ rfl wr w1.heap.size u7 ((lb.take j).filter (tW fr to false)) rfl HT.out.1 x rfl hfl hb1 ?_; intro a4 c4 w4 ho4 hg4 hl4; have T4 := Lib.hid (show Took w1 (tW fr to false) lb (j + 1) (.slice a4 (((lb.take j).filter (tW fr to false)).length + 1) c4) w4 from ⟨by rw [took_take HX.out, if_pos HIN.out]; exact ho4, kept_grownBy (HT.out.2.trans (Grows.alloc wr _).kept) hg4 (fun k e => (HT.out.1.lt e).1)⟩); clear ho4 hg4 hl4)
          go_roundw
          case rel => exact ⟨j + 1, by go_num, hlt2, T4⟩
          case measure => simp [intOf]; omega
      · have i1 : decide (fr ≤ x.f.time) = false := decide_eq_false h1
        have hin : tW fr to false x = true := by unfold tW inS; rw [i1]; rfl
        have HIN := Lib.hid hin
        have hfl : ((lb.take j).filter (tW fr to false)).length < 2199023255552 := Nat.lt_of_le_of_lt (List.length_filter_le _ _) (by rw [List.length_take]; omega)
        have hb1 : w1.heap.size ≤ wr.heap.size := HT.out.2.size
        clear hin
        go_wp2_with (at_builtin; refine wpList_append_row' rfl _ _ rfl wr w1.heap.size u7 ((lb.take j).filter (tW fr to false)) rfl HT.out.1 x rfl hfl hb1 ?_; intro a4 c4 w4 ho4 hg4 hl4; have T4 := Lib.hid (show Took w1 (tW fr to false) lb (j + 1) (.slice a4 (((lb.take j).filter (tW fr to false)).length + 1) c4) w4 from ⟨by rw [took_take HX.out, if_pos HIN.out]; exact ho4, kept_grownBy (HT.out.2.trans (Grows.alloc wr _).kept) hg4 (fun k e => (HT.out.1.lt e).1)⟩); clear ho4 hg4 hl4)
        go_roundw
        case rel => exact ⟨j + 1, by go_num, hlt2, T4⟩
        case measure => simp [intOf]; omega
    · obtain rfl : j = nb := by omega
      have hfin : OwnRows wr w1.heap.size u7 (lb.filter (tW fr to false)) := by
        have := HT.out.1
        rwa [List.take_of_length_le (by have := HNB.out; omega)] at this
      obtain ⟨a5, c5, h5⟩ := hfin.slice
      have HFIN := Lib.hid (show RefIs w ((ownP (l.map Ro.p)).filter fun q => inS fr to q.1.time == false) (.returned u7) wr from by
        rw [h5] at hfin ⊢
        refine ⟨a5, _, c5, _, rfl, ⟨rfl, hfin.base HK1.out.size, ?_, fun y hy => ?_⟩, HK1.out.trans HT.out.2⟩
        · rw [← HPB.out, List.filter_map]; rfl
        · exact FaAt.kept (HKB.out y (List.mem_filter.1 hy).1) HT.out.2)
      clear hfin h5
      go_wp2_with fail
      go_ret
      exact HFIN.out

end Go.Proofs.Ytcbgnikbaepkaaa
