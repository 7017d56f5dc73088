/- The document's Own, walked. -/
import Derived.Test.YtcbgnikbaepkaaaPb
namespace Go.Proofs.Ytcbgnikbaepkaaa
open Go.Shelf Go.RowKit Go.Lib Go.Sort Go.Proofs

theorem putP_length (f : Fa) (n : Int) : ∀ b : Ps, (putP f n b).length ≤ b.length + 1
  | [] => Nat.le_refl _
  | (g, m) :: r => by
    unfold putP
    split
    · have := putP_length f n r
      simp only [List.length_cons]; omega
    · split <;> simp

theorem ownAll_take {l : List Ro} {i : Nat} {x : Ro} (hx : l[i]? = some x) : ownAll ((l.take (i + 1)).map Ro.p) = putP x.f x.n (ownAll ((l.take i).map Ro.p)) := by
  rw [take_p hx, ownAll_snoc]
  rfl

theorem OwnRows.cap {w : World} {base n c : Nat} {a : Option Addr} {l : List Ro} (h : OwnRows w base (.slice a n c) l) : n ≤ c := by
  rcases h.2 with ⟨he, hn⟩ | ⟨g, cap, cur, he, h1, h2, h3, h4, h5, h6⟩
  · cases he; exact Nat.le_refl _
  · cases he; exact h3

theorem OwnRows.nonecap {w : World} {base n c : Nat} {a : Option Addr} {l : List Ro} (h : OwnRows w base (.slice a n c) l) : a = none → c = 0 := by
  rintro rfl
  rcases h.2 with ⟨he, hn⟩ | ⟨g, cap, cur, he, _⟩
  · cases he; rfl
  · cases he

/-- The state of the first loop: i rows put. -/
def Puts (w : World) (ps : Ps) (i : Nat) (v : Value) (wr : World) : Prop :=
  ∃ a n c lb, v = .slice a n c ∧ n = lb.length ∧ OwnRows wr w.heap.size (.slice a n c) lb ∧ lb.map Ro.p = ps ∧ (∀ y ∈ lb, y.ok wr) ∧ lb.length ≤ i ∧ Kept w wr

theorem puts_start (w : World) : Puts w [] 0 (.slice none 0 0) w := ⟨none, 0, 0, [], rfl, rfl, OwnRows.nil _ _, rfl, (fun y hy => by cases hy), Nat.le_refl _, Kept.refl _⟩

/-- The state of a loop that takes rows over: k rows seen. -/
def Took (w : World) (t : Ro → Bool) (lb : List Ro) (k : Nat) (v : Value) (wr : World) : Prop :=
  OwnRows wr w.heap.size v ((lb.take k).filter t) ∧ Kept w wr

theorem took_take {lb : List Ro} {t : Ro → Bool} {k : Nat} {x : Ro} (hx : lb[k]? = some x) : (lb.take (k + 1)).filter t = (lb.take k).filter t ++ if t x = true then [x] else [] := by
  obtain ⟨h, rfl⟩ := List.getElem?_eq_some_iff.1 hx
  exact take_filter h

theorem nzP_rows (lb : List Ro) : (lb.filter nz).map Ro.p = nzP (lb.map Ro.p) := by
  unfold nzP
  rw [List.filter_map]
  rfl

set_option maxHeartbeats 8000000 in
set_option maxRecDepth 100000 in
theorem refOwn_is (a : Option Addr) (len c : Nat) (l : List Ro) (w : World) (h : RowsAt w (.slice a len c) l) (hlen : len = l.length) (hl : l.length < 1099511627776) :
    Calls Try.prog 25 #[.slice a len c] w (RefIs w (ownP (l.map Ro.p))) := by
  have HR := Lib.hid h
  have HLEN := Lib.hid hlen
  have hl1 : len < 1099511627776 := by omega
  clear h hlen
  go_enter Try.func25, Try.ntmps25
  go_wp2_with fail
  go_loopw [3, 4] (fun vb vi wr => ∃ i : Nat, vi = .int .i64 i ∧ i ≤ len ∧ Hid (Puts w (ownAll ((l.take i).map Ro.p)) i vb wr)) (fun _ vi _ => len - (intOf vi).toNat)
  case atStart => exact ⟨0, rfl, by omega, puts_start w⟩
  case round =>
    obtain ⟨i, rfl, hi, HP⟩ := hrel
    obtain ⟨ab, nb, cb, lb, hv, hnb, hob, hpb, hkb, hlb, hkw⟩ := HP.out
    subst hv
    by_cases hlt : i < len
    · have k1 : i < l.length := by have := HLEN.out; omega
      obtain ⟨A, rfl⟩ := rows_some HR.out k1
      obtain ⟨x, hx⟩ : ∃ x, l[i]? = some x := ⟨_, List.getElem?_eq_getElem k1⟩
      obtain ⟨x0, x1, x2, x3, xo⟩ := rows_kept HR.out hkw hx
      have q1 : (i : Int) < (len : Int) := by omega
      have hput := fun V (hV : Kept wr V) => put_is ab nb cb lb x x.n V ((hob.rowsAt hkb (by omega)).kept hV) hnb hob.cap hob.nonecap (FaAt.kept xo hV) (by omega)
      have HPUT := Lib.hid hput
      have HX := Lib.hid hx
      have HPB := Lib.hid hpb
      have HNB := Lib.hid hnb
      have HKW := Lib.hid hkw
      have hbl : lb.length ≤ i := hlb
      clear hput hx hpb hnb hob hkb hkw k1 xo HP
      go_wp2_with fail
      go_still_tail 11, (by kernel_rfl)
      go_wp2_with (go_at_call 38; refine (HPUT.out _ (Grows.drew wr).kept).mono ?_; rintro e w2 ⟨a2, n2, c2, l2, rfl, ⟨hn2, ho2, hp2, hk2⟩, hkp2⟩; have F2 := Lib.hid (show n2 = l2.length ∧ OwnRows w2 wr.drew.heap.size (.slice a2 n2 c2) l2 ∧ l2.map Ro.p = putP x.f x.n (lb.map Ro.p) ∧ (∀ y ∈ l2, y.ok w2) ∧ Kept wr.drew w2 from ⟨hn2, ho2, hp2, hk2, hkp2⟩); clear hn2 ho2 hp2 hk2 hkp2)
      go_roundw
      case rel =>
        refine ⟨i + 1, by go_num, hlt, ?_⟩
        obtain ⟨hn2, ho2, hp2, hk2, hkp2⟩ := F2.out
        refine ⟨a2, n2, c2, l2, rfl, hn2, ho2.base ?_, ?_, hk2, ?_, ?_⟩
        · exact HKW.out.size
        · rw [hp2, HPB.out, ownAll_take HX.out]
        · have h1 := putP_length x.f x.n (lb.map Ro.p)
          have h2 := congrArg List.length hp2
          simp only [List.length_map] at h1 h2
          omega
        · exact (HKW.out.trans (Grows.drew wr).kept).trans hkp2
      case measure => simp [intOf]; omega
    · obtain rfl : i = len := by omega
      have hti : l.take i = l := List.take_of_length_le (by have := HLEN.out; omega)
      rw [hti] at hpb
      obtain ⟨w1, rfl⟩ : ∃ w1 : World, w1 = wr := ⟨_, rfl⟩
      have HOB := Lib.hid hob
      have HPB := Lib.hid hpb
      have HNB := Lib.hid hnb
      have HKB := Lib.hid hkb
      have hnb2 : nb ≤ i := by omega
      have hnb3 : lb.length ≤ i := hlb
      have HK0 := Lib.hid (show Took w1 nz lb 0 (.slice none 0 0) w1 from ⟨OwnRows.nil _ _, Kept.refl _⟩)
      have HKW := Lib.hid hkw
      clear hti hpb hnb hob hkb hkw HP
      go_wp2_with fail
      go_loopw [5, 6] (fun vo vj wr => ∃ j : Nat, vj = .int .i64 j ∧ j ≤ nb ∧ Hid (Took w1 nz lb j vo wr)) (fun _ vj _ => nb - (intOf vj).toNat)
      case atStart => exact ⟨0, rfl, by omega, HK0⟩
      case round =>
        obtain ⟨j, rfl, hj, HT⟩ := hrel
        by_cases hlt2 : j < nb
        · have k2 : j < lb.length := by have := HNB.out; omega
          have hrb := HOB.out.rowsAt HKB.out (by have := HNB.out; omega)
          obtain ⟨B, rfl⟩ := rows_some hrb k2
          obtain ⟨x, hx⟩ : ∃ x, lb[j]? = some x := ⟨_, List.getElem?_eq_getElem k2⟩
          obtain ⟨x0, x1, x2, x3, xo⟩ := rows_kept hrb HT.out.2 hx
          have q1 : (j : Int) < (nb : Int) := by omega
          have HX := Lib.hid hx
          clear hx k2 hrb xo
          by_cases hz : x.n = 0
          · have g1 : (x.n != 0) = false := by simp [hz]
            have HZ := Lib.hid hz
            clear hz
            go_wp2_with fail
            go_roundw
            case rel =>
              refine ⟨j + 1, by go_num, hlt2, ⟨?_, HT.out.2⟩⟩
              rw [took_take HX.out, if_neg (by unfold nz; rw [HZ.out]; decide), List.append_nil]
              exact HT.out.1
            case measure => simp [intOf]; omega
          · have g1 : (x.n != 0) = true := by simp [hz]
            have HZ := Lib.hid hz
            have hfl : ((lb.take j).filter nz).length < 2199023255552 := Nat.lt_of_le_of_lt (List.length_filter_le _ _) (by rw [List.length_take]; omega)
            have hb1 : w1.heap.size ≤ wr.heap.size := HT.out.2.size
            clear hz
            go_wp2_with (at_builtin; refine wpList_append_row' rfl _ _ rfl wr w1.heap.size u5 ((lb.take j).filter nz) rfl HT.out.1 x rfl hfl hb1 ?_; intro a4 c4 w4 ho4 hg4 hl4; have T4 := Lib.hid (show Took w1 nz lb (j + 1) (.slice a4 (((lb.take j).filter nz).length + 1) c4) w4 from ⟨by rw [took_take HX.out, if_pos (by unfold nz; simp [HZ.out])]; exact ho4, kept_grownBy (HT.out.2.trans (Grows.alloc wr _).kept) hg4 (fun k e => (HT.out.1.lt e).1)⟩); clear ho4 hg4 hl4)
            go_roundw
            case rel => exact ⟨j + 1, by go_num, hlt2, T4⟩
            case measure => simp [intOf]; omega
        · obtain rfl : j = nb := by omega
          have hfin : OwnRows wr w1.heap.size u5 (lb.filter nz) := by
            have := HT.out.1
            rwa [List.take_of_length_le (by have := HNB.out; omega)] at this
          obtain ⟨a5, c5, h5⟩ := hfin.slice
          have HFIN := Lib.hid (show RefIs w (ownP (l.map Ro.p)) (.returned u5) wr from by
            rw [h5] at hfin ⊢
            refine ⟨a5, _, c5, _, rfl, ⟨rfl, hfin.base HKW.out.size, ?_, fun y hy => ?_⟩, HKW.out.trans HT.out.2⟩
            · rw [nzP_rows, HPB.out]; rfl
            · exact FaAt.kept (HKB.out y (List.mem_filter.1 hy).1) HT.out.2)
          clear hfin h5
          go_wp2_with fail
          go_ret
          exact HFIN.out

end Go.Proofs.Ytcbgnikbaepkaaa
