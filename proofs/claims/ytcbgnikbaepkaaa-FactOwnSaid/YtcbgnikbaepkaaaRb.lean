/- The document's Bag; two bags compared. -/
import Derived.Test.YtcbgnikbaepkaaaPd
import Derived.Test.YtcbgnikbaepkaaaPc
namespace Go.Proofs.Ytcbgnikbaepkaaa
open Go.Shelf Go.RowKit Go.Lib Go.Sort Go.Proofs

def ones (l : List Ro) : Ps := l.map fun x => (x.f, 1)

theorem ones_take {l : List Ro} {i : Nat} {x : Ro} (hx : l[i]? = some x) : ownAll (ones (l.take (i + 1))) = putP x.f 1 (ownAll (ones (l.take i))) := by
  obtain ⟨h, rfl⟩ := List.getElem?_eq_some_iff.1 hx
  rw [List.take_succ_eq_append_getElem h]
  unfold ones
  rw [List.map_append, List.map_cons, List.map_nil, ownAll_snoc]

theorem FactsAt.kept {w w' : World} {v : Value} {l : List Ro} (h : FactsAt w v l) (hk : Kept w w') : FactsAt w' v l :=
  ⟨h.slice, fun a n c hv i hi => by
    obtain ⟨A, ha, h0, h1, h2⟩ := h.cells a n c hv i hi
    exact ⟨A, ha, hk.cell h0, hk.cell h1, hk.cell h2⟩, fun x hx => FaAt.kept (h.ok x hx) hk, h.len⟩

set_option maxHeartbeats 8000000 in
set_option maxRecDepth 100000 in
theorem refBag_is (a : Option Addr) (len c : Nat) (l : List Ro) (w : World) (h : FactsAt w (.slice a len c) l) (hlen : len = l.length) (hl : l.length < 1099511627776) :
    Calls Try.prog 24 #[.slice a len c] w (RefIs w (ownAll (ones l))) := by
  have HR := Lib.hid h
  have HLEN := Lib.hid hlen
  have hl1 : len < 1099511627776 := by omega
  clear h hlen
  go_enter Try.func24, Try.ntmps24
  go_wp2_with fail
  go_loopw [3, 4] (fun vb vi wr => ∃ i : Nat, vi = .int .i64 i ∧ i ≤ len ∧ Hid (Puts w (ownAll (ones (l.take i))) i vb wr)) (fun _ vi _ => len - (intOf vi).toNat)
  case atStart => exact ⟨0, rfl, by omega, puts_start w⟩
  case round =>
    obtain ⟨i, rfl, hi, HP⟩ := hrel
    obtain ⟨ab, nb, cb, lb, hv, hnb, hob, hpb, hkb, hlb, hkw⟩ := HP.out
    subst hv
    by_cases hlt : i < len
    · have k1 : i < l.length := by have := HLEN.out; omega
      obtain ⟨A, rfl, h0, h1, h2⟩ := HR.out.cells _ _ _ rfl i k1
      obtain ⟨x, hx⟩ : ∃ x, l[i]? = some x := ⟨_, List.getElem?_eq_getElem k1⟩
      have hxe : l[i] = x := (List.getElem?_eq_some_iff.1 hx).2
      rw [hxe] at h0 h1 h2
      have x0 := hkw.cell h0
      have x1 : wr.cell? _ = some (.slice x.da x.dn x.dc) := hkw.cell h1
      have x2 : wr.cell? _ = some (.slice x.ma x.mn x.mc) := hkw.cell h2
      have xo : x.ok wr := FaAt.kept (HR.out.ok x (List.mem_of_getElem? hx)) hkw
      have q1 : (i : Int) < (len : Int) := by omega
      have hput := fun V (hV : Kept wr V) => put_is ab nb cb lb x 1 V ((hob.rowsAt hkb (by omega)).kept hV) hnb hob.cap hob.nonecap (FaAt.kept xo hV) (by omega)
      have HPUT := Lib.hid hput
      have HX := Lib.hid hx
      have HPB := Lib.hid hpb
      have HNB := Lib.hid hnb
      have HKW := Lib.hid hkw
      have hbl : lb.length ≤ i := hlb
      clear hput hx hxe h0 h1 h2 hpb hnb hob hkb hkw k1 xo HP
      go_wp2_with (go_at_call 38; refine (HPUT.out _ (Kept.refl wr)).mono ?_; rintro e w2 ⟨a2, n2, c2, l2, rfl, ⟨hn2, ho2, hp2, hk2⟩, hkp2⟩; have F2 := Lib.hid (show n2 = l2.length ∧ OwnRows w2 wr.heap.size (.slice a2 n2 c2) l2 ∧ l2.map Ro.p = putP x.f 1 (lb.map Ro.p) ∧ (∀ y ∈ l2, y.ok w2) ∧ Kept wr w2 from ⟨hn2, ho2, hp2, hk2, hkp2⟩); clear hn2 ho2 hp2 hk2 hkp2)
      go_roundw
      case rel =>
        refine ⟨i + 1, by go_num, hlt, ?_⟩
        obtain ⟨hn2, ho2, hp2, hk2, hkp2⟩ := F2.out
        refine ⟨a2, n2, c2, l2, rfl, hn2, ho2.base HKW.out.size, ?_, hk2, ?_, HKW.out.trans hkp2⟩
        · rw [hp2, HPB.out, ones_take HX.out]
        · have h1 := putP_length x.f 1 (lb.map Ro.p)
          have h2 := congrArg List.length hp2
          simp only [List.length_map] at h1 h2
          omega
      case measure => simp [intOf]; omega
    · obtain rfl : i = len := by omega
      have hti : l.take i = l := List.take_of_length_le (by have := HLEN.out; omega)
      rw [hti] at hpb
      have HFIN := Lib.hid (show RefIs w (ownAll (ones l)) (.returned (.slice ab nb cb)) wr from ⟨ab, nb, cb, lb, rfl, ⟨hnb, hob, hpb, hkb⟩, hkw⟩)
      clear hti hpb hnb hob hkb hkw HP
      go_wp2_with fail
      go_ret
      exact HFIN.out

theorem own_mem {l : Ps} {p : Fa × Int} (h : p ∈ ownAll l) : ∃ q ∈ l, q.1 = p.1 := by
  induction hlen : l.length generalizing l p with
  | zero =>
    obtain rfl : l = [] := List.eq_nil_of_length_eq_zero hlen
    cases h
  | succ k ih =>
    have hne : l ≠ [] := by intro e; subst e; simp at hlen
    obtain ⟨l, r, rfl⟩ : ∃ s r, l = s ++ [r] := ⟨l.dropLast, l.getLast hne, (List.dropLast_concat_getLast hne).symm⟩
    rw [ownAll_snoc] at h
    rcases put_mem _ _ h with e | e
    · exact ⟨r, List.mem_append_right _ (List.mem_singleton.2 rfl), e.symm⟩
    · obtain ⟨q, hq, e2⟩ := ih e (by simpa using hlen)
      exact ⟨q, List.mem_append_left _ hq, e2⟩

theorem cnt_ones (f : Fa) (l : List Ro) : 0 ≤ cnt f (ones l) ∧ cnt f (ones l) ≤ l.length ∧ ((∃ x ∈ l, x.f = f) → 1 ≤ cnt f (ones l)) := by
  induction l with
  | nil => exact ⟨Int.le_refl _, Int.le_refl _, fun ⟨x, hx, _⟩ => by cases hx⟩
  | cons y l ih =>
    obtain ⟨i1, i2, i3⟩ := ih
    have e : cnt f (ones (y :: l)) = (if cmpF y.f f = 0 then 1 else 0) + cnt f (ones l) := rfl
    rw [e, List.length_cons]
    refine ⟨by split <;> omega, by split <;> omega, ?_⟩
    rintro ⟨x, hx, rfl⟩
    rcases List.mem_cons.1 hx with h | h
    · subst h; rw [if_pos (cmpF_refl _)]; omega
    · have := i3 ⟨x, h, rfl⟩
      split <;> omega

/-- No fact of a bag of facts stands 0 times. -/
theorem ones_nz (l : List Ro) (hl : l.length < 1099511627776) : ownP (ones l) = ownAll (ones l) := by
  have hf : Fit (ones l) := fun p hp => by
    obtain ⟨x, _, rfl⟩ := List.mem_map.1 hp
    rfl
  obtain ⟨h1, h2, h3, _⟩ := own_inv (ones l) hf
  unfold ownP nzP
  refine List.filter_eq_self.2 fun p hp => ?_
  obtain ⟨q, hq, e⟩ := own_mem hp
  obtain ⟨x, hx, rfl⟩ := List.mem_map.1 hq
  obtain ⟨c1, c2, c3⟩ := cnt_ones p.1 l
  have c4 := c3 ⟨x, hx, e⟩
  have h4 := h3 p.1
  rw [h1.cnt hp, h2 p hp, wu_eq] at h4
  have : p.2 ≠ 0 := by omega
  simpa using this

set_option maxHeartbeats 3200000 in
set_option maxRecDepth 100000 in
theorem same40 (x y : Ro) (w : World) (hx : x.ok w) (hy : y.ok w) :
    Calls Try.prog 40 #[.agg #[.int .i64 x.f.time, .slice x.da x.dn x.dc, .slice x.ma x.mn x.mc, .int .u64 x.n], .agg #[.int .i64 y.f.time, .slice y.da y.dn y.dc, .slice y.ma y.mn y.mc, .int .u64 y.n]] w
      fun e w' => e = .returned (.bool (x.n == y.n && cmpF x.f y.f == 0)) ∧ Grows w w' := by
  obtain ⟨W, hW⟩ : ∃ W, W = (w.alloc (.cells #[.int .i64 x.f.time, .slice x.da x.dn x.dc, .slice x.ma x.mn x.mc, .int .u64 x.n] 40)).alloc (.cells #[.int .i64 y.f.time, .slice y.da y.dn y.dc, .slice y.ma y.mn y.mc, .int .u64 y.n] 40) := ⟨_, rfl⟩
  have gW : Grows w W := by rw [hW]; exact (Grows.alloc _ _).trans (Grows.alloc _ _)
  have sz : (w.alloc (.cells #[.int .i64 x.f.time, .slice x.da x.dn x.dc, .slice x.ma x.mn x.mc, .int .u64 x.n] 40)).heap.size = w.heap.size + 1 := by simp
  have b0 : W.heap[w.heap.size]? = some (.cells #[.int .i64 x.f.time, .slice x.da x.dn x.dc, .slice x.ma x.mn x.mc, .int .u64 x.n] 40 (0, 0)) := by rw [hW, Below.heap_alloc _ _ _ (by simp)]; exact (MapKept.heap_alloc _ _).1
  have b1 : W.heap[w.heap.size + 1]? = some (.cells #[.int .i64 y.f.time, .slice y.da y.dn y.dc, .slice y.ma y.mn y.mc, .int .u64 y.n] 40 (0, 0)) := by rw [hW, ← sz]; exact (MapKept.heap_alloc _ _).1
  have x0 : W.cell? ⟨w.heap.size, 0, none⟩ = some (.int .i64 x.f.time) := by simp only [World.cell?, b0]; rfl
  have x1 : W.cell? ⟨w.heap.size, 1, none⟩ = some (.slice x.da x.dn x.dc) := by simp only [World.cell?, b0]; rfl
  have x2 : W.cell? ⟨w.heap.size, 2, none⟩ = some (.slice x.ma x.mn x.mc) := by simp only [World.cell?, b0]; rfl
  have x3 : W.cell? ⟨w.heap.size, 3, none⟩ = some (.int .u64 x.n) := by simp only [World.cell?, b0]; rfl
  have y0 : W.cell? ⟨w.heap.size + 1, 0, none⟩ = some (.int .i64 y.f.time) := by simp only [World.cell?, b1]; rfl
  have y1 : W.cell? ⟨w.heap.size + 1, 1, none⟩ = some (.slice y.da y.dn y.dc) := by simp only [World.cell?, b1]; rfl
  have y2 : W.cell? ⟨w.heap.size + 1, 2, none⟩ = some (.slice y.ma y.mn y.mc) := by simp only [World.cell?, b1]; rfl
  have y3 : W.cell? ⟨w.heap.size + 1, 3, none⟩ = some (.int .u64 y.n) := by simp only [World.cell?, b1]; rfl
  have hc := compare_is x.f y.f x.d x.m y.d y.m W (FaAt.grows hx gW) (FaAt.grows hy gW)
  have HC := Lib.hid hc
  have GW := Lib.hid gW
  have HW := Lib.hid hW
  clear hx hy sz b0 b1 hc gW hW
  obtain ⟨q, hq⟩ : ∃ q, q = (x.n == y.n) := ⟨_, rfl⟩
  have HQ := Lib.hid hq
  cases q
  · have g1 : (x.n == y.n) = false := hq.symm
    have HF := Lib.hid (show (x.n == y.n && cmpF x.f y.f == 0) = false by rw [g1]; rfl)
    clear hq HQ
    rw [HF.out]
    go_enter Try.func40, Try.ntmps40
    go_wp2_with fail
    rw [← HW.out]
    go_wp2_with fail
    go_ret
    exact ⟨rfl, GW.out⟩
  · have g1 : (x.n == y.n) = true := hq.symm
    have HF := Lib.hid (show (x.n == y.n && cmpF x.f y.f == 0) = (cmpF x.f y.f == 0) by rw [g1]; rfl)
    clear hq HQ
    rw [HF.out]
    go_enter Try.func40, Try.ntmps40
    go_wp2_with fail
    rw [← HW.out]
    go_wp2_with fail
    refine HC.out.mono ?_
    rintro e w2 ⟨rfl, hg⟩
    have G2 := Lib.hid hg
    clear hg x0 x1 x2 x3 y0 y1 y2 y3
    go_wp2_with fail
    go_ret
    exact ⟨rfl, GW.out.trans G2.out⟩

set_option maxHeartbeats 3200000 in
set_option maxRecDepth 100000 in
theorem equalFunc_is (a1 a2 : Option Addr) (n1 n2 c1 c2 : Nat) (l1 l2 : List Ro) (w : World) (h1 : RowsAt w (.slice a1 n1 c1) l1) (h2 : RowsAt w (.slice a2 n2 c2) l2) (e1 : n1 = l1.length) (e2 : n2 = l2.length) :
    Calls Try.prog 39 #[.slice a1 n1 c1, .slice a2 n2 c2, .func (.func 40) #[] #[]] w fun e w' => e = .returned (.bool (eqP (l1.map Ro.p) (l2.map Ro.p))) ∧ Grows w w' := by
  have HR1 := Lib.hid h1
  have HR2 := Lib.hid h2
  have hl1 := h1.len
  have hl2 := h2.len
  have E1 := Lib.hid e1
  have E2 := Lib.hid e2
  have b1 : n1 < 2199023255552 := by omega
  have b2 : n2 < 2199023255552 := by omega
  clear h1 h2 hl1 hl2
  by_cases hne : n1 = n2
  · subst hne
    clear e1 e2
    go_enter Try.func39, Try.ntmps39
    go_wp2_with fail
    go_loopw [7, 8, 9, 17] (fun _ _ _ vi wr => ∃ i : Nat, vi = .int .i64 i ∧ i ≤ n1 ∧ Hid (Grows w wr) ∧ Hid (eqP (l1.map Ro.p) (l2.map Ro.p) = eqP ((l1.drop i).map Ro.p) ((l2.drop i).map Ro.p))) (fun _ _ _ vi _ => n1 - (intOf vi).toNat)
    case atStart => exact ⟨0, rfl, by omega, Grows.refl _, (show _ = _ from rfl)⟩
    case round =>
      obtain ⟨i, rfl, hi, HG, HE⟩ := hrel
      by_cases hlt : i < n1
      · have k1 : i < l1.length := by have := E1.out; omega
        have k2 : i < l2.length := by have := E2.out; omega
        obtain ⟨A1, rfl⟩ := rows_some HR1.out k1
        obtain ⟨A2, rfl⟩ := rows_some HR2.out k2
        obtain ⟨x, hx⟩ : ∃ x, l1[i]? = some x := ⟨_, List.getElem?_eq_getElem k1⟩
        obtain ⟨y, hy⟩ : ∃ y, l2[i]? = some y := ⟨_, List.getElem?_eq_getElem k2⟩
        obtain ⟨x0, x1, x2, x3, xo⟩ := rows_kept HR1.out HG.out.kept hx
        have hg1 : Grows wr (wr.alloc (.cells #[.int .i64 x.f.time, .slice x.da x.dn x.dc, .slice x.ma x.mn x.mc, .int .u64 x.n] 40)) := Grows.alloc _ _
        obtain ⟨y0, y1, y2, y3, yo⟩ := rows_kept HR2.out (HG.out.trans hg1).kept hy
        have hc := fun V (hV : Grows wr V) => same40 x y V (FaAt.grows xo hV) (FaAt.grows (FaAt.kept (HR2.out.ok y (List.mem_of_getElem? hy)) HG.out.kept) hV)
        have HC := Lib.hid hc
        have HD := Lib.hid (eqP_drop hx hy)
        have q1 : (i : Int) < (n1 : Int) := by omega
        clear hx hy k1 k2 hc xo yo hg1
        obtain ⟨q, hq⟩ : ∃ q, q = (x.n == y.n && cmpF x.f y.f == 0) := ⟨_, rfl⟩
        have HQ := Lib.hid hq
        clear hq
        cases q
        · go_wp2_with (go_at_call 40; refine (HC.out _ ((Grows.alloc _ _).trans (Grows.alloc _ _))).mono ?_; rintro e w2 ⟨rfl, hg⟩; rw [← HQ.out]; have G2 := Lib.hid (((HG.out.trans (Grows.alloc _ _)).trans (Grows.alloc _ _)).trans hg); clear hg)
          go_ret
          exact ⟨by rw [HE.out, HD.out, ← HQ.out]; rfl, G2.out⟩
        · go_wp2_with (go_at_call 40; refine (HC.out _ ((Grows.alloc _ _).trans (Grows.alloc _ _))).mono ?_; rintro e w2 ⟨rfl, hg⟩; rw [← HQ.out]; have G2 := Lib.hid (((HG.out.trans (Grows.alloc _ _)).trans (Grows.alloc _ _)).trans hg); clear hg)
          go_roundw
          case rel => exact ⟨i + 1, by go_num, hlt, G2, (show _ = _ from by rw [HE.out, HD.out, ← HQ.out]; rfl)⟩
          case measure => simp [intOf]; omega
      · obtain rfl : i = n1 := by omega
        have HF := Lib.hid (show eqP (l1.map Ro.p) (l2.map Ro.p) = true by
          rw [HE.out, List.drop_of_length_le (by have := E1.out; omega), List.drop_of_length_le (by have := E2.out; omega)]; rfl)
        clear HE
        go_wp2_with fail
        go_ret
        exact ⟨by rw [HF.out]; rfl, HG.out⟩
  · have g0 : ((n1 : Int) != (n2 : Int)) = true := by simp; omega
    have HF := Lib.hid (show eqP (l1.map Ro.p) (l2.map Ro.p) = false from eqP_length (by simp only [List.length_map]; omega))
    clear e1 e2
    go_enter Try.func39, Try.ntmps39
    go_wp2_with fail
    go_ret
    exact ⟨by rw [HF.out]; rfl, Grows.refl _⟩

end Go.Proofs.Ytcbgnikbaepkaaa
