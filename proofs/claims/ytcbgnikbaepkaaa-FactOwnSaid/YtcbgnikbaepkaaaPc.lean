/- Two rows of facts compared, one by one. -/
import Derived.Test.YtcbgnikbaepkaaaPb
namespace Go.Proofs.Ytcbgnikbaepkaaa
open Go.Shelf Go.RowKit Go.Lib Go.Sort Go.Proofs

def eqP : Ps → Ps → Bool
  | [], [] => true
  | (f, m) :: r, (g, n) :: s => m == n && cmpF f g == 0 && eqP r s
  | _, _ => false

theorem eqP_iff : ∀ (a b : Ps), eqP a b = true ↔ a = b
  | [], [] => by simp [eqP]
  | [], _ :: _ => by simp [eqP]
  | _ :: _, [] => by simp [eqP]
  | (f, m) :: r, (g, n) :: s => by
    simp only [eqP, Bool.and_eq_true, beq_iff_eq, eqP_iff r s, isCmp_F.eq, List.cons.injEq, Prod.mk.injEq]
    constructor
    · rintro ⟨⟨h1, h2⟩, h3⟩; exact ⟨⟨h2, h1⟩, h3⟩
    · rintro ⟨⟨h1, h2⟩, h3⟩; exact ⟨⟨h2, h1⟩, h3⟩

theorem eqP_self (a : Ps) : eqP a a = true := (eqP_iff a a).2 rfl

theorem eqP_length : ∀ {a b : Ps}, a.length ≠ b.length → eqP a b = false := fun {a b} h => by
  cases hc : eqP a b
  · rfl
  · rw [(eqP_iff a b).1 hc] at h; exact absurd rfl h

theorem eqP_drop {l r : List Ro} {k : Nat} {x y : Ro} (hx : l[k]? = some x) (hy : r[k]? = some y) :
    eqP ((l.drop k).map Ro.p) ((r.drop k).map Ro.p) = (x.n == y.n && cmpF x.f y.f == 0 && eqP ((l.drop (k + 1)).map Ro.p) ((r.drop (k + 1)).map Ro.p)) := by
  obtain ⟨h1, rfl⟩ := List.getElem?_eq_some_iff.1 hx
  obtain ⟨h2, rfl⟩ := List.getElem?_eq_some_iff.1 hy
  rw [List.drop_eq_getElem_cons h1, List.drop_eq_getElem_cons h2]
  rfl

set_option maxHeartbeats 3200000 in
set_option maxRecDepth 100000 in
theorem is_is (a1 a2 : Option Addr) (n1 n2 c1 c2 : Nat) (l1 l2 : List Ro) (w : World) (h1 : RowsAt w (.slice a1 n1 c1) l1) (h2 : RowsAt w (.slice a2 n2 c2) l2) (e1 : n1 = l1.length) (e2 : n2 = l2.length) :
    Calls Try.prog 18 #[.slice a1 n1 c1, .slice a2 n2 c2] w fun e w' => e = .returned (.bool (eqP (l1.map Ro.p) (l2.map Ro.p))) ∧ Grows w w' := by
  have mixed : Try.prog.follows .mixedOrders = true := by kernel_rfl
  have HR1 := Lib.hid h1
  have HR2 := Lib.hid h2
  have hl1 := h1.len
  have hl2 := h2.len
  have E1 := Lib.hid e1
  have E2 := Lib.hid e2
  have b1 : n1 < 2199023255552 := by omega
  have b2 : n2 < 2199023255552 := by omega
  clear h1 h2 hl1 hl2
  by_cases hne : n1 = n2
  · subst hne
    clear e1 e2
    go_enter Try.func18, Try.ntmps18
    go_wp2_with fail
    go_loopw [5] (fun vi wr => ∃ i : Nat, vi = .int .i64 i ∧ i ≤ n1 ∧ Hid (Grows w wr) ∧ Hid (eqP (l1.map Ro.p) (l2.map Ro.p) = eqP ((l1.drop i).map Ro.p) ((l2.drop i).map Ro.p))) (fun vi _ => n1 - (intOf vi).toNat)
    case atStart => exact ⟨0, rfl, by omega, Grows.refl _, (show _ = _ from rfl)⟩
    case round =>
      obtain ⟨i, rfl, hi, HG, HE⟩ := hrel
      by_cases hlt : i < n1
      · have k1 : i < l1.length := by have := E1.out; omega
        have k2 : i < l2.length := by have := E2.out; omega
        obtain ⟨A1, rfl⟩ := rows_some HR1.out k1
        obtain ⟨A2, rfl⟩ := rows_some HR2.out k2
        obtain ⟨x, hx⟩ : ∃ x, l1[i]? = some x := ⟨_, List.getElem?_eq_getElem k1⟩
        obtain ⟨y, hy⟩ : ∃ y, l2[i]? = some y := ⟨_, List.getElem?_eq_getElem k2⟩
        have x0 := fun q os => (rows_grown HR1.out HG.out hx q os).1
        have x1 := fun q os => (rows_grown HR1.out HG.out hx q os).2.1
        have x2 := fun q os => (rows_grown HR1.out HG.out hx q os).2.2.1
        have x3 := fun q os => (rows_grown HR1.out HG.out hx q os).2.2.2.1
        have y0 := fun q os => (rows_grown HR2.out HG.out hy q os).1
        have y1 := fun q os => (rows_grown HR2.out HG.out hy q os).2.1
        have y2 := fun q os => (rows_grown HR2.out HG.out hy q os).2.2.1
        have y3 := fun q os => (rows_grown HR2.out HG.out hy q os).2.2.2.1
        have hc : ∀ n os, Calls Try.prog 15 #[.agg #[.int .i64 x.f.time, .slice x.da x.dn x.dc, .slice x.ma x.mn x.mc], .agg #[.int .i64 y.f.time, .slice y.da y.dn y.dc, .slice y.ma y.mn y.mc]] (grow (wr.drewN n) os) fun e w' => e = .returned (.int .i64 (cmpF x.f y.f)) ∧ ∃ q os', w' = grow ((grow (wr.drewN n) os).drewN q) os' := fun n os =>
          refCompare_is x.f y.f _ _ _ _ _ (rows_grown HR1.out HG.out hx n os).2.2.2.2 (rows_grown HR2.out HG.out hy n os).2.2.2.2
        have HD := Lib.hid (eqP_drop hx hy)
        have q1 : (i : Int) < (n1 : Int) := by omega
        clear hx hy k1 k2
        by_cases hn : x.n = y.n
        · have g1 : (x.n != y.n) = false := by simp [hn]
          have g2 : (x.n == y.n) = true := by simp [hn]
          have HN := Lib.hid hn
          clear hn
          by_cases hv : cmpF x.f y.f = 0
          · have g3 : (cmpF x.f y.f != 0) = false := by simp [hv]
            have HE2 := Lib.hid (show eqP (l1.map Ro.p) (l2.map Ro.p) = eqP ((l1.drop (i + 1)).map Ro.p) ((l2.drop (i + 1)).map Ro.p) by rw [HE.out, HD.out, g2, hv]; rfl)
            have HV := Lib.hid hv
            clear hv HE
            go_wp2_with fail
            go_quiet_grown ((go_at_call 15; refine Calls.grown_of (hc _ _)))
            change Exit.then _ _ _ _ (grow (wr.drewN nq) osq)
            have HG2 := Lib.hid (show Grows w (grow (wr.drewN nq) osq) from HG.out.trans ⟨nq, osq, rfl⟩)
            generalize grow (wr.drewN nq) osq = w7 at HG2 ⊢
            clear x0 x1 x2 x3 y0 y1 y2 y3 hc HG
            go_wp2_with fail
            go_roundw
            case rel => exact ⟨i + 1, by go_num, hlt, HG2, HE2⟩
            case measure => simp [intOf]; omega
          · have g3 : (cmpF x.f y.f != 0) = true := by simp [hv]
            have HF := Lib.hid (show eqP (l1.map Ro.p) (l2.map Ro.p) = false by
              rw [HE.out, HD.out, g2]
              have : (cmpF x.f y.f == 0) = false := by simpa using hv
              rw [this]; rfl)
            have HV := Lib.hid hv
            clear hv HE
            go_wp2_with fail
            go_quiet_grown ((go_at_call 15; refine Calls.grown_of (hc _ _)))
            change Exit.then _ _ _ _ (grow (wr.drewN nq) osq)
            have HG2 := Lib.hid (show Grows w (grow (wr.drewN nq) osq) from HG.out.trans ⟨nq, osq, rfl⟩)
            generalize grow (wr.drewN nq) osq = w7 at HG2 ⊢
            clear x0 x1 x2 x3 y0 y1 y2 y3 hc HG
            go_wp2_with fail
            go_ret
            exact ⟨by rw [HF.out]; rfl, HG2.out⟩
        · have g1 : (x.n != y.n) = true := by simp [hn]
          have HF := Lib.hid (show eqP (l1.map Ro.p) (l2.map Ro.p) = false by
            rw [HE.out, HD.out]
            have : (x.n == y.n) = false := by simpa using hn
            rw [this]; rfl)
          have HN := Lib.hid hn
          clear hn HE
          go_wp2_with fail
          have x3' : wr.cell? ⟨(A1.add (i * 4)).block, (A1.add (i * 4)).off + 3, none⟩ = some (.int .u64 x.n) := by have := x3 0 #[]; rwa [grow_empty] at this
          have y3' : wr.cell? ⟨(A2.add (i * 4)).block, (A2.add (i * 4)).off + 3, none⟩ = some (.int .u64 y.n) := by have := y3 0 #[]; rwa [grow_empty] at this
          clear x0 x1 x2 x3 y0 y1 y2 y3 hc
          go_quiet (fail)
          have HG2 := Lib.hid (show Grows w (wr.drewN nq) from HG.out.trans (Grows.drewN _ _))
          generalize wr.drewN nq = w7 at HG2 ⊢
          clear x3' y3' HG
          go_wp2_with fail
          go_ret
          exact ⟨by rw [HF.out]; rfl, HG2.out⟩
      · obtain rfl : i = n1 := by omega
        have HF := Lib.hid (show eqP (l1.map Ro.p) (l2.map Ro.p) = true by
          rw [HE.out, List.drop_of_length_le (by have := E1.out; omega), List.drop_of_length_le (by have := E2.out; omega)]; rfl)
        clear HE
        go_wp2_with fail
        go_ret
        exact ⟨by rw [HF.out]; rfl, HG.out⟩
  · have g0 : ((n1 : Int) != (n2 : Int)) = true := by simp; omega
    have HF := Lib.hid (show eqP (l1.map Ro.p) (l2.map Ro.p) = false from eqP_length (by simp only [List.length_map]; omega))
    clear e1 e2
    go_enter Try.func18, Try.ntmps18
    go_wp2_with fail
    go_ret
    exact ⟨by rw [HF.out]; rfl, Grows.refl _⟩

end Go.Proofs.Ytcbgnikbaepkaaa
