/- The document's Put, walked. -/
import Derived.Test.YtcbgnikbaepkaaaPa
namespace Go.Proofs.Ytcbgnikbaepkaaa
open Go.Shelf Go.RowKit Go.Lib Go.Sort Go.Proofs

/-- What a function of the document's answers: rows of its own. -/
def RefIs (w : World) (ps : Ps) (e : Ending) (w' : World) : Prop :=
  ∃ a n c l', e = .returned (.slice a n c) ∧ (n = l'.length ∧ OwnRows w' w.heap.size (.slice a n c) l' ∧ l'.map Ro.p = ps ∧ ∀ y ∈ l', y.ok w') ∧ Kept w w'

theorem putP_front (f : Fa) (n : Int) : ∀ (a b : Ps), (∀ p ∈ a, cmpF p.1 f < 0) → putP f n (a ++ b) = a ++ putP f n b
  | [], _, _ => rfl
  | (g, m) :: a, b, h => by
    have h0 : cmpF g f < 0 := h (g, m) List.mem_cons_self
    simp only [List.cons_append, putP, if_pos h0]
    rw [putP_front f n a b fun p hp => h p (List.mem_cons_of_mem _ hp)]

theorem putP_at {l : List Ro} {k : Nat} {y : Ro} {f : Fa} {n : Int} (h : ∀ z ∈ l.take k, cmpF z.f f < 0) (hy : l[k]? = some y) (hc : ¬ cmpF y.f f < 0) :
    putP f n (l.map Ro.p) = (l.take k).map Ro.p ++ (if cmpF y.f f = 0 then (f, wu (y.n + n)) :: (l.drop (k + 1)).map Ro.p else (f, n) :: (l.drop k).map Ro.p) := by
  obtain ⟨hk, rfl⟩ := List.getElem?_eq_some_iff.1 hy
  have e : l.map Ro.p = (l.take k).map Ro.p ++ (l.drop k).map Ro.p := by rw [← List.map_append, List.take_append_drop]
  rw [e, putP_front f n _ _ fun p hp => by obtain ⟨z, hz, rfl⟩ := List.mem_map.1 hp; exact h z hz]
  congr 1
  rw [List.drop_eq_getElem_cons hk]
  simp only [List.map_cons, Ro.p, putP, if_neg hc]

theorem putP_end {l : List Ro} {f : Fa} {n : Int} (h : ∀ z ∈ l, cmpF z.f f < 0) : putP f n (l.map Ro.p) = l.map Ro.p ++ [(f, n)] := by
  have := putP_front f n (l.map Ro.p) [] fun p hp => by obtain ⟨z, hz, rfl⟩ := List.mem_map.1 hp; exact h z hz
  rwa [List.append_nil] at this

theorem RowsAt.back {w : World} {A : Addr} {n c : Nat} {l : List Ro} (h : RowsAt w (.slice (some A) n c) l) (k : Nat) (hk : k ≤ l.length) (m : Nat) (hm : m = l.length - k) (c' : Nat) : Src w (.slice (some (A.add (k * 4))) m c') (l.drop k) := by
  subst hm
  have := h.part k (l.length - k) (by omega) c'
  rwa [List.take_of_length_le (by rw [List.length_drop]; exact Nat.le_refl _)] at this

theorem src_zero (w : World) (A : Addr) (m c : Nat) (l : List Ro) (k : Nat) (h : l.length ≤ k ∧ m = 0) : Src w (.slice (some A) m c) (l.drop k) := by
  obtain ⟨h1, rfl⟩ := h
  rw [List.drop_of_length_le h1]
  exact src_empty w (some A) c (fun e => by cases e)

set_option maxHeartbeats 8000000 in
set_option maxRecDepth 100000 in
theorem put_is (a : Option Addr) (len c : Nat) (l : List Ro) (x : Ro) (n : Int) (w : World) (h : RowsAt w (.slice a len c) l) (hlen : len = l.length) (hcap : len ≤ c) (hnone : a = none → c = 0) (hx : x.ok w) (hl : l.length + 1 < 2199023255552) :
    Calls Try.prog 38 #[.slice a len c, .agg #[.int .i64 x.f.time, .slice x.da x.dn x.dc, .slice x.ma x.mn x.mc], .int .u64 n] w (RefIs w (putP x.f n (l.map Ro.p))) := by
  have mixed : Try.prog.follows .mixedOrders = true := by kernel_rfl
  obtain ⟨W, hW⟩ : ∃ W, W = w.alloc (.cells #[.int .i64 x.f.time, .slice x.da x.dn x.dc, .slice x.ma x.mn x.mc] 27) := ⟨_, rfl⟩
  have gW : Grows w W := by rw [hW]; exact Grows.alloc _ _
  have bW : W.heap[w.heap.size]? = some (.cells #[.int .i64 x.f.time, .slice x.da x.dn x.dc, .slice x.ma x.mn x.mc] 27 (0, 0)) := by rw [hW]; exact (MapKept.heap_alloc _ _).1
  have HR := Lib.hid h
  have HX := Lib.hid hx
  have HW := Lib.hid hW
  have GW := Lib.hid gW
  have BW := Lib.hid bW
  have HLEN := Lib.hid hlen
  have hl1 : len ≤ l.length := by omega
  have hl2 : l.length ≤ len := by omega
  have hlw : w.heap.size < W.heap.size := (Array.getElem?_eq_some_iff.1 bW).1
  clear h hx hW gW bW hlen
  go_enter Try.func38, Try.ntmps38
  go_wp2_with fail
  rw [← HW.out]
  go_loopw [7] (fun vi wr => ∃ k : Nat, vi = .int .i64 k ∧ k ≤ l.length ∧ Hid (Grows W wr) ∧ Hid (∀ z ∈ l.take k, cmpF z.f x.f < 0)) (fun vi _ => l.length - (intOf vi).toNat)
  case atStart => exact ⟨0, rfl, by omega, Grows.refl _, (show ∀ z ∈ l.take 0, _ from fun z hz => by simp at hz)⟩
  case round =>
    obtain ⟨k, rfl, hk, HG, HB⟩ := hrel
    have hgl : w.heap.size < wr.heap.size := Nat.lt_of_lt_of_le hlw HG.out.size
    have f0 : ∀ n os, (grow (wr.drewN n) os).cell? ⟨w.heap.size, 0, none⟩ = some (.int .i64 x.f.time) := cell_grown hgl (HG.out.cell (by simp only [World.cell?, BW.out]; rfl))
    have f1 : ∀ n os, (grow (wr.drewN n) os).cell? ⟨w.heap.size, 1, none⟩ = some (.slice x.da x.dn x.dc) := cell_grown hgl (HG.out.cell (by simp only [World.cell?, BW.out]; rfl))
    have f2 : ∀ n os, (grow (wr.drewN n) os).cell? ⟨w.heap.size, 2, none⟩ = some (.slice x.ma x.mn x.mc) := cell_grown hgl (HG.out.cell (by simp only [World.cell?, BW.out]; rfl))
    by_cases hlt : k < l.length
    · have hlt2 : (k : Int) < (len : Int) := by omega
      have hd1 : decide ((k : Int) < (len : Int)) = true := decide_eq_true hlt2
      obtain ⟨A, rfl, hc0⟩ := HR.out.cells _ _ _ rfl k hlt
      obtain ⟨y, hy⟩ : ∃ y, l[k]? = some y := ⟨_, List.getElem?_eq_getElem hlt⟩
      have hye : l[k] = y := (List.getElem?_eq_some_iff.1 hy).2
      rw [hye] at hc0
      have gr : ∀ n os, Grows w (grow (wr.drewN n) os) := fun n os => (GW.out.trans HG.out).trans ⟨n, os, rfl⟩
      have y0 : ∀ n os, (grow (wr.drewN n) os).cell? (A.add (k * 4)) = some (.int .i64 y.f.time) := fun n os => (gr n os).cell (hc0 0 _ rfl)
      have y1 : ∀ n os, (grow (wr.drewN n) os).cell? ⟨(A.add (k * 4)).block, (A.add (k * 4)).off + 1, none⟩ = some (.slice y.da y.dn y.dc) := fun n os => (gr n os).cell (hc0 1 _ rfl)
      have y2 : ∀ n os, (grow (wr.drewN n) os).cell? ⟨(A.add (k * 4)).block, (A.add (k * 4)).off + 2, none⟩ = some (.slice y.ma y.mn y.mc) := fun n os => (gr n os).cell (hc0 2 _ rfl)
      have hc : ∀ n os, Calls Try.prog 15 #[.agg #[.int .i64 y.f.time, .slice y.da y.dn y.dc, .slice y.ma y.mn y.mc], .agg #[.int .i64 x.f.time, .slice x.da x.dn x.dc, .slice x.ma x.mn x.mc]] (grow (wr.drewN n) os) fun e w' => e = .returned (.int .i64 (cmpF y.f x.f)) ∧ ∃ q os', w' = grow ((grow (wr.drewN n) os).drewN q) os' := fun n os =>
        refCompare_is y.f x.f _ _ _ _ _ (FaAt.grows (HR.out.ok y (List.mem_of_getElem? hy)) (gr n os)) (FaAt.grows HX.out (gr n os))
      have HY := Lib.hid hy
      have HC0 := Lib.hid hc0
      clear hy hye hc0 gr
      by_cases hlt3 : cmpF y.f x.f < 0
      · have hd2 : decide (cmpF y.f x.f < 0) = true := decide_eq_true hlt3
        have HB2 := Lib.hid (show ∀ z ∈ l.take (k + 1), cmpF z.f x.f < 0 from fun z hz => by
          rw [List.take_succ_eq_append_getElem hlt, List.mem_append, List.mem_singleton] at hz
          rcases hz with hz | hz
          · exact HB.out z hz
          · rw [hz, (List.getElem?_eq_some_iff.1 HY.out).2]; exact hlt3)
        have H3 := Lib.hid hlt3
        clear hlt3
        go_wp2_with fail
        go_quiet_grown ((go_at_call 15; refine Calls.grown_of (hc _ _)))
        change Exit.then _ _ _ _ (grow (wr.drewN nq) osq)
        have HG2 := Lib.hid (show Grows W (grow (wr.drewN nq) osq) from HG.out.trans ⟨nq, osq, rfl⟩)
        generalize grow (wr.drewN nq) osq = w7 at HG2 ⊢
        clear y0 y1 y2 f0 f1 f2 hc HG HB
        go_wp2_with fail
        go_roundw
        case rel => exact ⟨k + 1, by go_num, hlt, HG2, HB2⟩
        case measure => simp [intOf]; omega
      · have hd2 : decide (cmpF y.f x.f < 0) = false := decide_eq_false hlt3
        have HPUT := Lib.hid (putP_at (n := n) HB.out HY.out hlt3)
        have H3 := Lib.hid hlt3
        clear hlt3
        go_wp2_with fail
        go_quiet_grown ((go_at_call 15; refine Calls.grown_of (hc _ _)))
        change Exit.then _ _ _ _ (grow (wr.drewN nq) osq)
        have HG2 := Lib.hid (show Grows W (grow (wr.drewN nq) osq) from HG.out.trans ⟨nq, osq, rfl⟩)
        generalize grow (wr.drewN nq) osq = w1 at HG2 ⊢
        clear y0 y1 y2 f0 f1 f2 hc HG HB hd1 hd2
        have HSRC := Lib.hid ((HR.out.kept (GW.out.trans HG2.out).kept).front k (by omega) c)
        have HKL := Lib.hid (show (l.take k).length = k by rw [List.length_take]; omega)
        have hbase : w.heap.size ≤ w1.heap.size := (GW.out.trans HG2.out).size
        have hkc : k ≤ c := by omega
        go_wp2_with (at_builtin; refine wpList_append_rows rfl _ _ rfl w1 w.heap.size (.slice none 0 0) [] rfl (OwnRows.nil _ _) (.slice (some A) k c) (l.take k) rfl HSRC.out (by rw [HKL.out]; simp; omega) hbase k (by rw [HKL.out]; simp) ?_; intro a2 c2 w2 ho2 hg2; have O2 := Lib.hid ho2; have K2 := Lib.hid (kept_grownBy (Kept.refl w1) hg2 (fun k e => by cases e)); clear ho2 hg2)
        have KW2 := Lib.hid (HG2.out.kept.trans K2.out)
        have HR2 := Lib.hid (HR.out.kept (GW.out.kept.trans KW2.out))
        have hgl2 : w.heap.size < w2.heap.size := Nat.lt_of_lt_of_le hlw KW2.out.size
        have f0 : ∀ n os, (grow (w2.drewN n) os).cell? ⟨w.heap.size, 0, none⟩ = some (.int .i64 x.f.time) := cell_grown hgl2 (KW2.out.cell (by simp only [World.cell?, BW.out]; rfl))
        have f1 : ∀ n os, (grow (w2.drewN n) os).cell? ⟨w.heap.size, 1, none⟩ = some (.slice x.da x.dn x.dc) := cell_grown hgl2 (KW2.out.cell (by simp only [World.cell?, BW.out]; rfl))
        have f2 : ∀ n os, (grow (w2.drewN n) os).cell? ⟨w.heap.size, 2, none⟩ = some (.slice x.ma x.mn x.mc) := cell_grown hgl2 (KW2.out.cell (by simp only [World.cell?, BW.out]; rfl))
        have y0 := fun q os => (rows_grown HR2.out (Grows.refl w2) HY.out q os).1
        have y1 := fun q os => (rows_grown HR2.out (Grows.refl w2) HY.out q os).2.1
        have y2 := fun q os => (rows_grown HR2.out (Grows.refl w2) HY.out q os).2.2.1
        have hc : ∀ n os, Calls Try.prog 15 #[.agg #[.int .i64 y.f.time, .slice y.da y.dn y.dc, .slice y.ma y.mn y.mc], .agg #[.int .i64 x.f.time, .slice x.da x.dn x.dc, .slice x.ma x.mn x.mc]] (grow (w2.drewN n) os) fun e w' => e = .returned (.int .i64 (cmpF y.f x.f)) ∧ ∃ q os', w' = grow ((grow (w2.drewN n) os).drewN q) os' := fun n os =>
          refCompare_is y.f x.f _ _ _ _ _ (rows_grown HR2.out (Grows.refl w2) HY.out n os).2.2.2.2 (FaAt.grows (FaAt.kept HX.out (GW.out.kept.trans KW2.out)) ⟨n, os, rfl⟩)
        have hd1 : decide ((k : Int) < (len : Int)) = true := decide_eq_true hlt2
        by_cases h0 : cmpF y.f x.f = 0
        · rw [if_pos h0] at HPUT
          have hq : (cmpF y.f x.f == 0) = true := by simp [h0]
          have H0 := Lib.hid h0
          clear h0
          go_wp2_with fail
          go_quiet_grown ((go_at_call 15; refine Calls.grown_of (hc _ _)))
          change Exit.then _ _ _ _ (grow (w2.drewN nq) osq)
          have HG3 := Lib.hid (show Grows w2 (grow (w2.drewN nq) osq) from ⟨nq, osq, rfl⟩)
          generalize grow (w2.drewN nq) osq = w3 at HG3 ⊢
          clear y0 y1 y2 f0 f1 f2 hc
          have KW3 := Lib.hid (KW2.out.trans HG3.out.kept)
          have HR3 := Lib.hid (HR2.out.kept HG3.out.kept)
          have f0 : w3.cell? ⟨w.heap.size, 0, none⟩ = some (.int .i64 x.f.time) := KW3.out.cell (by simp only [World.cell?, BW.out]; rfl)
          have f1 : w3.cell? ⟨w.heap.size, 1, none⟩ = some (.slice x.da x.dn x.dc) := KW3.out.cell (by simp only [World.cell?, BW.out]; rfl)
          have f2 : w3.cell? ⟨w.heap.size, 2, none⟩ = some (.slice x.ma x.mn x.mc) := KW3.out.cell (by simp only [World.cell?, BW.out]; rfl)
          have hlk : (l.take k).length < 2199023255552 := by rw [HKL.out]; omega
          have y3 := (rows_kept HR3.out (Kept.refl _) HY.out).2.2.2.1
          have O3 := Lib.hid ((O2.out.grows HG3.out).grows (Grows.drew w3))
          have hb3 : w.heap.size ≤ w3.drew.heap.size := Nat.le_trans hbase (Nat.le_trans K2.out.size HG3.out.size)
          have HRK := Lib.hid (fun V (hV : Kept w V) => (HR.out.kept hV))
          go_wp2_with fail
          go_region_law ((refine step_append_row rfl _ _ rfl w3.drew w.heap.size (.slice a2 k c2) (l.take k) (by simp [Act.eval, Act.put]) O3.out { x with n := wu (y.n + n) } (by simp [Act.eval, Act.put]) hlk hb3 (k + 1) (by rw [HKL.out]) ?_; intro a4 c4 w4 ho4 hg4; have O4 := Lib.hid ho4; have K4 := Lib.hid (kept_grownBy (((GW.out.kept.trans KW3.out).trans (Grows.drew w3).kept).trans (Grows.alloc _ _).kept) hg4 (fun k e => (O3.out.lt e).1)); clear ho4 hg4))
          all_goals
            have hb4 : w.heap.size ≤ w4.heap.size := K4.out.size
            clear f0 f1 f2 y3
            by_cases hkc1 : c = k + 1
            · subst hkc1
              have hz0 : len - (k + 1) = 0 := by omega
              go_wp2_with (at_builtin; refine wpList_append_rows rfl _ _ rfl w4 w.heap.size (.slice a4 (k + 1) c4) (l.take k ++ [{ x with n := wu (y.n + n) }]) rfl O4.out (.slice (some A) 0 0) (l.drop (k + 1)) rfl (src_zero w4 A 0 0 l (k + 1) (by omega)) (by simp only [List.length_append, List.length_take, List.length_drop, List.length_cons, List.length_nil]; omega) hb4 len (by simp only [List.length_append, List.length_take, List.length_drop, List.length_cons, List.length_nil]; omega) ?_; intro a5 c5 w5 ho5 hg5; have O5 := Lib.hid ho5; have K5 := Lib.hid (kept_grownBy K4.out hg5 (fun k e => (O4.out.lt e).1)); clear ho5 hg5)
              go_ret
              refine ⟨a5, _, c5, _, rfl, ⟨?_, O5.out, by rw [HPUT.out]; simp only [List.map_append, List.map_cons, List.map_nil, List.append_assoc, List.singleton_append]; rfl, ?_⟩, K5.out⟩
              · simp only [List.length_append, List.length_take, List.length_drop, List.length_cons, List.length_nil]; omega
              · intro z hz
                rcases List.mem_append.1 hz with hz | hz
                · rcases List.mem_append.1 hz with hz | hz
                  · exact FaAt.kept (HR.out.ok z (List.mem_of_mem_take hz)) K5.out
                  · rw [List.mem_singleton.1 hz]; exact FaAt.kept HX.out K5.out
                · exact FaAt.kept (HR.out.ok z (List.mem_of_mem_drop hz)) K5.out
            · have hkc2 : k + 1 ≤ c := by omega
              go_wp2_with (at_builtin; refine wpList_append_rows rfl _ _ rfl w4 w.heap.size (.slice a4 (k + 1) c4) (l.take k ++ [{ x with n := wu (y.n + n) }]) rfl O4.out (.slice (some (A.add ((k + 1) * 4))) (len - (k + 1)) (c - (k + 1))) (l.drop (k + 1)) rfl ((HRK.out w4 K4.out).back (k + 1) (by omega) (len - (k + 1)) (by omega) (c - (k + 1))) (by simp only [List.length_append, List.length_take, List.length_drop, List.length_cons, List.length_nil]; omega) hb4 len (by simp only [List.length_append, List.length_take, List.length_drop, List.length_cons, List.length_nil]; omega) ?_; intro a5 c5 w5 ho5 hg5; have O5 := Lib.hid ho5; have K5 := Lib.hid (kept_grownBy K4.out hg5 (fun k e => (O4.out.lt e).1)); clear ho5 hg5)
              go_ret
              refine ⟨a5, _, c5, _, rfl, ⟨?_, O5.out, by rw [HPUT.out]; simp only [List.map_append, List.map_cons, List.map_nil, List.append_assoc, List.singleton_append]; rfl, ?_⟩, K5.out⟩
              · simp only [List.length_append, List.length_take, List.length_drop, List.length_cons, List.length_nil]; omega
              · intro z hz
                rcases List.mem_append.1 hz with hz | hz
                · rcases List.mem_append.1 hz with hz | hz
                  · exact FaAt.kept (HR.out.ok z (List.mem_of_mem_take hz)) K5.out
                  · rw [List.mem_singleton.1 hz]; exact FaAt.kept HX.out K5.out
                · exact FaAt.kept (HR.out.ok z (List.mem_of_mem_drop hz)) K5.out
        · rw [if_neg h0] at HPUT
          have hq : (cmpF y.f x.f == 0) = false := by simp [h0]
          have H0 := Lib.hid h0
          clear h0
          go_wp2_with fail
          go_quiet_grown ((go_at_call 15; refine Calls.grown_of (hc _ _)))
          change Exit.then _ _ _ _ (grow (w2.drewN nq) osq)
          have HG3 := Lib.hid (show Grows w2 (grow (w2.drewN nq) osq) from ⟨nq, osq, rfl⟩)
          generalize grow (w2.drewN nq) osq = w3 at HG3 ⊢
          clear y0 y1 y2 f0 f1 f2 hc
          have KW3 := Lib.hid (KW2.out.trans HG3.out.kept)
          have HR3 := Lib.hid (HR2.out.kept HG3.out.kept)
          have f0 : w3.cell? ⟨w.heap.size, 0, none⟩ = some (.int .i64 x.f.time) := KW3.out.cell (by simp only [World.cell?, BW.out]; rfl)
          have f1 : w3.cell? ⟨w.heap.size, 1, none⟩ = some (.slice x.da x.dn x.dc) := KW3.out.cell (by simp only [World.cell?, BW.out]; rfl)
          have f2 : w3.cell? ⟨w.heap.size, 2, none⟩ = some (.slice x.ma x.mn x.mc) := KW3.out.cell (by simp only [World.cell?, BW.out]; rfl)
          have hlk : (l.take k).length < 2199023255552 := by rw [HKL.out]; omega
          have O3 := Lib.hid (O2.out.grows HG3.out)
          have hb3 : w.heap.size ≤ w3.heap.size := Nat.le_trans hbase (Nat.le_trans K2.out.size HG3.out.size)
          have HRK := Lib.hid (fun V (hV : Kept w V) => (HR.out.kept hV))
          have hkc3 : ¬ c = k := by omega
          have tok1 : True := trivial
          go_wp2_with (first | (at_builtin; have _t := tok1; refine wpList_append_row' rfl _ _ rfl w3 w.heap.size (.slice a2 k c2) (l.take k) rfl O3.out { x with n := n } rfl hlk hb3 ?_; intro a4 c4 w4 ho4 hg4 hl4; have O4 := Lib.hid (show OwnRows w4 w.heap.size (.slice a4 (k + 1) c4) (l.take k ++ [{ x with n := n }]) by rw [HKL.out] at ho4; exact ho4); have K4 := Lib.hid (kept_grownBy ((GW.out.kept.trans KW3.out).trans (Grows.alloc _ _).kept) hg4 (fun k e => (O3.out.lt e).1)); have hb4 : w.heap.size ≤ w4.heap.size := K4.out.size; clear ho4 hg4 hl4 tok1) | (at_builtin; refine wpList_append_rows rfl _ _ rfl w4 w.heap.size (.slice a4 (k + 1) c4) (l.take k ++ [{ x with n := n }]) rfl O4.out (.slice (some (A.add (k * 4))) (len - k) (c - k)) (l.drop (k)) rfl ((HRK.out w4 K4.out).back k (by omega) (len - k) (by omega) (c - k)) (by simp only [List.length_append, List.length_take, List.length_drop, List.length_cons, List.length_nil]; omega) hb4 (len + 1) (by simp only [List.length_append, List.length_take, List.length_drop, List.length_cons, List.length_nil]; omega) ?_; intro a5 c5 w5 ho5 hg5; have O5 := Lib.hid ho5; have K5 := Lib.hid (kept_grownBy K4.out hg5 (fun k e => (O4.out.lt e).1)); clear ho5 hg5))
          go_ret
          refine ⟨a5, _, c5, _, rfl, ⟨?_, O5.out, by rw [HPUT.out]; simp only [List.map_append, List.map_cons, List.map_nil, List.append_assoc, List.singleton_append]; rfl, ?_⟩, K5.out⟩
          · simp only [List.length_append, List.length_take, List.length_drop, List.length_cons, List.length_nil]; omega
          · intro z hz
            rcases List.mem_append.1 hz with hz | hz
            · rcases List.mem_append.1 hz with hz | hz
              · exact FaAt.kept (HR.out.ok z (List.mem_of_mem_take hz)) K5.out
              · rw [List.mem_singleton.1 hz]; exact FaAt.kept HX.out K5.out
            · exact FaAt.kept (HR.out.ok z (List.mem_of_mem_drop hz)) K5.out
    · obtain rfl : k = len := by omega
      have hnlt : ¬ (k : Int) < (k : Int) := by omega
      have hd1 : decide ((k : Int) < (k : Int)) = false := decide_eq_false hnlt
      have HPUT := Lib.hid (putP_end (n := n) (show ∀ z ∈ l, cmpF z.f x.f < 0 from by have := HB.out; rwa [List.take_of_length_le hl2] at this))
      clear HB
      cases a with
      | none =>
        have hc0 := hnone rfl
        obtain rfl : k = 0 := by omega
        subst hc0
        have hl0 : l = [] := List.eq_nil_of_length_eq_zero (by omega)
        have HL0 := Lib.hid hl0
        clear hl0 hnone
        go_wp2_with fail
        go_quiet (fail)
        have HG2 := Lib.hid (show Grows W (wr.drewN nq) from HG.out.trans (Grows.drewN _ _))
        generalize wr.drewN nq = w1 at HG2 ⊢
        clear f0 f1 f2 HG
        have hbase : w.heap.size ≤ w1.heap.size := (GW.out.trans HG2.out).size
        have HSRC := Lib.hid (show Src w1 (.slice none 0 0) l from (by rw [HL0.out]; exact .inl ⟨rfl, rfl⟩))
        go_wp2_with (at_builtin; refine wpList_append_rows rfl _ _ rfl w1 w.heap.size (.slice none 0 0) [] rfl (OwnRows.nil _ _) (.slice none 0 0) l rfl HSRC.out (by simp only [List.length_nil]; omega) hbase 0 (by simp only [List.length_nil]; omega) ?_; intro a2 c2 w2 ho2 hg2; have O2 := Lib.hid ho2; have K2 := Lib.hid (kept_grownBy (Kept.refl w1) hg2 (fun k e => by cases e)); clear ho2 hg2)
        go_quiet (fail)
        have KW3 := Lib.hid ((HG2.out.kept.trans K2.out).trans (Grows.drewN w2 nq).kept)
        have O3 := Lib.hid (show OwnRows (w2.drewN nq) w.heap.size (.slice a2 0 c2) l from O2.out.grows (Grows.drewN _ _))
        generalize w2.drewN nq = w3 at KW3 O3 ⊢
        have f0 : w3.cell? ⟨w.heap.size, 0, none⟩ = some (.int .i64 x.f.time) := KW3.out.cell (by simp only [World.cell?, BW.out]; rfl)
        have f1 : w3.cell? ⟨w.heap.size, 1, none⟩ = some (.slice x.da x.dn x.dc) := KW3.out.cell (by simp only [World.cell?, BW.out]; rfl)
        have f2 : w3.cell? ⟨w.heap.size, 2, none⟩ = some (.slice x.ma x.mn x.mc) := KW3.out.cell (by simp only [World.cell?, BW.out]; rfl)
        have hb3 : w.heap.size ≤ w3.heap.size := (GW.out.kept.trans KW3.out).size
        have hlk : l.length < 2199023255552 := by omega
        have tok1 : True := trivial
        go_wp2_with (first | (at_builtin; have _t := tok1; refine wpList_append_row' rfl _ _ rfl w3 w.heap.size (.slice a2 0 c2) l rfl O3.out { x with n := n } rfl hlk hb3 ?_; intro a4 c4 w4 ho4 hg4 hl4; have O4 := Lib.hid ho4; have K4 := Lib.hid (kept_grownBy ((GW.out.kept.trans KW3.out).trans (Grows.alloc _ _).kept) hg4 (fun k e => (O3.out.lt e).1)); have hb4 : w.heap.size ≤ w4.heap.size := K4.out.size; clear ho4 hg4 hl4 tok1) | (at_builtin; refine wpList_append_rows rfl _ _ rfl w4 w.heap.size (.slice a4 (l.length + 1) c4) (l ++ [{ x with n := n }]) rfl O4.out (.slice none 0 0) [] rfl (.inl ⟨rfl, rfl⟩) (by simp only [List.length_append, List.length_cons, List.length_nil]; omega) hb4 (0 + 1) (by simp only [List.length_append, List.length_cons, List.length_nil]; omega) ?_; intro a5 c5 w5 ho5 hg5; have O5 := Lib.hid ho5; have K5 := Lib.hid (kept_grownBy K4.out hg5 (fun k e => (O4.out.lt e).1)); clear ho5 hg5))
        go_ret
        refine ⟨a5, _, c5, _, rfl, ⟨?_, O5.out, ?_, ?_⟩, K5.out⟩
        · simp only [List.length_append, List.length_cons, List.length_nil]; omega
        · rw [HPUT.out]; simp only [List.append_nil, List.map_append, List.map_cons, List.map_nil]; rfl
        · intro z hz
          rw [List.append_nil] at hz
          rcases List.mem_append.1 hz with hz | hz
          · exact FaAt.kept (HR.out.ok z hz) K5.out
          · rw [List.mem_singleton.1 hz]; exact FaAt.kept HX.out K5.out
      | some A =>
        clear hnone
        by_cases hck : c = k
        · subst hck
          go_wp2_with fail
          go_quiet (fail)
          have HG2 := Lib.hid (show Grows W (wr.drewN nq) from HG.out.trans (Grows.drewN _ _))
          generalize wr.drewN nq = w1 at HG2 ⊢
          clear f0 f1 f2 HG
          have hbase : w.heap.size ≤ w1.heap.size := (GW.out.trans HG2.out).size
          have HSRC := Lib.hid (show Src w1 (.slice (some A) c c) l from (by have := (HR.out.kept (GW.out.kept.trans HG2.out.kept)).front c (by omega) c; rwa [List.take_of_length_le hl2] at this))
          go_wp2_with (at_builtin; refine wpList_append_rows rfl _ _ rfl w1 w.heap.size (.slice none 0 0) [] rfl (OwnRows.nil _ _) (.slice (some A) c c) l rfl HSRC.out (by simp only [List.length_nil]; omega) hbase c (by simp only [List.length_nil]; omega) ?_; intro a2 c2 w2 ho2 hg2; have O2 := Lib.hid ho2; have K2 := Lib.hid (kept_grownBy (Kept.refl w1) hg2 (fun k e => by cases e)); clear ho2 hg2)
          go_quiet (fail)
          have KW3 := Lib.hid ((HG2.out.kept.trans K2.out).trans (Grows.drewN w2 nq).kept)
          have O3 := Lib.hid (show OwnRows (w2.drewN nq) w.heap.size (.slice a2 c c2) l from O2.out.grows (Grows.drewN _ _))
          generalize w2.drewN nq = w3 at KW3 O3 ⊢
          have f0 : w3.cell? ⟨w.heap.size, 0, none⟩ = some (.int .i64 x.f.time) := KW3.out.cell (by simp only [World.cell?, BW.out]; rfl)
          have f1 : w3.cell? ⟨w.heap.size, 1, none⟩ = some (.slice x.da x.dn x.dc) := KW3.out.cell (by simp only [World.cell?, BW.out]; rfl)
          have f2 : w3.cell? ⟨w.heap.size, 2, none⟩ = some (.slice x.ma x.mn x.mc) := KW3.out.cell (by simp only [World.cell?, BW.out]; rfl)
          have hb3 : w.heap.size ≤ w3.heap.size := (GW.out.kept.trans KW3.out).size
          have hlk : l.length < 2199023255552 := by omega
          have tok1 : True := trivial
          go_wp2_with (first | (at_builtin; have _t := tok1; refine wpList_append_row' rfl _ _ rfl w3 w.heap.size (.slice a2 c c2) l rfl O3.out { x with n := n } rfl hlk hb3 ?_; intro a4 c4 w4 ho4 hg4 hl4; have O4 := Lib.hid ho4; have K4 := Lib.hid (kept_grownBy ((GW.out.kept.trans KW3.out).trans (Grows.alloc _ _).kept) hg4 (fun k e => (O3.out.lt e).1)); have hb4 : w.heap.size ≤ w4.heap.size := K4.out.size; clear ho4 hg4 hl4 tok1) | (at_builtin; refine wpList_append_rows rfl _ _ rfl w4 w.heap.size (.slice a4 (l.length + 1) c4) (l ++ [{ x with n := n }]) rfl O4.out (.slice (some A) 0 0) [] rfl (src_empty _ _ _ (fun e => by cases e)) (by simp only [List.length_append, List.length_cons, List.length_nil]; omega) hb4 (c + 1) (by simp only [List.length_append, List.length_cons, List.length_nil]; omega) ?_; intro a5 c5 w5 ho5 hg5; have O5 := Lib.hid ho5; have K5 := Lib.hid (kept_grownBy K4.out hg5 (fun k e => (O4.out.lt e).1)); clear ho5 hg5))
          go_ret
          refine ⟨a5, _, c5, _, rfl, ⟨?_, O5.out, ?_, ?_⟩, K5.out⟩
          · simp only [List.length_append, List.length_cons, List.length_nil]; omega
          · rw [HPUT.out]; simp only [List.append_nil, List.map_append, List.map_cons, List.map_nil]; rfl
          · intro z hz
            rw [List.append_nil] at hz
            rcases List.mem_append.1 hz with hz | hz
            · exact FaAt.kept (HR.out.ok z hz) K5.out
            · rw [List.mem_singleton.1 hz]; exact FaAt.kept HX.out K5.out
        · have hck2 : k ≤ c := by omega
          go_wp2_with fail
          go_quiet (fail)
          have HG2 := Lib.hid (show Grows W (wr.drewN nq) from HG.out.trans (Grows.drewN _ _))
          generalize wr.drewN nq = w1 at HG2 ⊢
          clear f0 f1 f2 HG
          have hbase : w.heap.size ≤ w1.heap.size := (GW.out.trans HG2.out).size
          have HSRC := Lib.hid (show Src w1 (.slice (some A) k c) l from (by have := (HR.out.kept (GW.out.kept.trans HG2.out.kept)).front k (by omega) c; rwa [List.take_of_length_le hl2] at this))
          go_wp2_with (at_builtin; refine wpList_append_rows rfl _ _ rfl w1 w.heap.size (.slice none 0 0) [] rfl (OwnRows.nil _ _) (.slice (some A) k c) l rfl HSRC.out (by simp only [List.length_nil]; omega) hbase k (by simp only [List.length_nil]; omega) ?_; intro a2 c2 w2 ho2 hg2; have O2 := Lib.hid ho2; have K2 := Lib.hid (kept_grownBy (Kept.refl w1) hg2 (fun k e => by cases e)); clear ho2 hg2)
          go_quiet (fail)
          have KW3 := Lib.hid ((HG2.out.kept.trans K2.out).trans (Grows.drewN w2 nq).kept)
          have O3 := Lib.hid (show OwnRows (w2.drewN nq) w.heap.size (.slice a2 k c2) l from O2.out.grows (Grows.drewN _ _))
          generalize w2.drewN nq = w3 at KW3 O3 ⊢
          have f0 : w3.cell? ⟨w.heap.size, 0, none⟩ = some (.int .i64 x.f.time) := KW3.out.cell (by simp only [World.cell?, BW.out]; rfl)
          have f1 : w3.cell? ⟨w.heap.size, 1, none⟩ = some (.slice x.da x.dn x.dc) := KW3.out.cell (by simp only [World.cell?, BW.out]; rfl)
          have f2 : w3.cell? ⟨w.heap.size, 2, none⟩ = some (.slice x.ma x.mn x.mc) := KW3.out.cell (by simp only [World.cell?, BW.out]; rfl)
          have hb3 : w.heap.size ≤ w3.heap.size := (GW.out.kept.trans KW3.out).size
          have hlk : l.length < 2199023255552 := by omega
          have tok1 : True := trivial
          go_wp2_with (first | (at_builtin; have _t := tok1; refine wpList_append_row' rfl _ _ rfl w3 w.heap.size (.slice a2 k c2) l rfl O3.out { x with n := n } rfl hlk hb3 ?_; intro a4 c4 w4 ho4 hg4 hl4; have O4 := Lib.hid ho4; have K4 := Lib.hid (kept_grownBy ((GW.out.kept.trans KW3.out).trans (Grows.alloc _ _).kept) hg4 (fun k e => (O3.out.lt e).1)); have hb4 : w.heap.size ≤ w4.heap.size := K4.out.size; clear ho4 hg4 hl4 tok1) | (at_builtin; refine wpList_append_rows rfl _ _ rfl w4 w.heap.size (.slice a4 (l.length + 1) c4) (l ++ [{ x with n := n }]) rfl O4.out (.slice (some (A.add (k * 4))) 0 (c - k)) [] rfl (src_empty _ _ _ (fun e => by cases e)) (by simp only [List.length_append, List.length_cons, List.length_nil]; omega) hb4 (k + 1) (by simp only [List.length_append, List.length_cons, List.length_nil]; omega) ?_; intro a5 c5 w5 ho5 hg5; have O5 := Lib.hid ho5; have K5 := Lib.hid (kept_grownBy K4.out hg5 (fun k e => (O4.out.lt e).1)); clear ho5 hg5))
          go_ret
          refine ⟨a5, _, c5, _, rfl, ⟨?_, O5.out, ?_, ?_⟩, K5.out⟩
          · simp only [List.length_append, List.length_cons, List.length_nil]; omega
          · rw [HPUT.out]; simp only [List.append_nil, List.map_append, List.map_cons, List.map_nil]; rfl
          · intro z hz
            rw [List.append_nil] at hz
            rcases List.mem_append.1 hz with hz | hz
            · exact FaAt.kept (HR.out.ok z hz) K5.out
            · rw [List.mem_singleton.1 hz]; exact FaAt.kept HX.out K5.out

end Go.Proofs.Ytcbgnikbaepkaaa
