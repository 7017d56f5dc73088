/- FactSpans, walked. -/
import Derived.Test.YtcbgnikbaepkaaaPf
import Derived.Test.YtcbgnikbaepkaaaPc
import Derived.Deep.RegionHeld3
namespace Go.Proofs.Ytcbgnikbaepkaaa
open Go.Shelf Go.RowKit Go.Lib Go.Sort Go.Proofs

theorem rows_len {l : List Ro} {ps : Ps} (h : l.map Ro.p = ps) (hl : ps.length < 2199023255552) : l.length < 2199023255552 := by
  have := congrArg List.length h
  rw [List.length_map] at this
  omega

theorem own_len {l : List Ro} {t : Fa × Int → Bool} (hl : l.length < 1099511627776) : (ownP ((l.map Ro.p).filter t)).length < 2199023255552 := by
  have h1 := ownP_length ((l.map Ro.p).filter t)
  have h2 := List.length_filter_le t (l.map Ro.p)
  rw [List.length_map] at h2
  omega

theorem filt_len {l : List Ro} {t : Fa × Int → Bool} (hl : l.length < 1099511627776) : ((ownP (l.map Ro.p)).filter t).length < 2199023255552 := by
  have h1 := ownP_length (l.map Ro.p)
  have h2 := List.length_filter_le t (ownP (l.map Ro.p))
  rw [List.length_map] at h1
  omega

theorem span_eq (fr to : Int) (ps : Ps) (hf : Fit ps) : eqP (ownP (ps.filter fun q => inS fr to q.1.time)) ((ownP ps).filter fun q => inS fr to q.1.time == true) = true := by
  rw [own_filter (fun f => inS fr to f.time) ps hf, eqP_iff]
  congr 1
  funext q
  simp

theorem span_eq2 (fr to : Int) (ps : Ps) (hf : Fit ps) : eqP (ownP (ps.filter fun q => !inS fr to q.1.time)) ((ownP ps).filter fun q => inS fr to q.1.time == false) = true := by
  rw [own_filter (fun f => !inS fr to f.time) ps hf, eqP_iff]
  congr 1
  funext q
  cases inS fr to q.1.time <;> rfl

set_option maxHeartbeats 8000000 in
set_option maxRecDepth 100000 in
theorem spans_is (a : Option Addr) (len c : Nat) (l : List Ro) (fr to : Int) (w : World) (h : RowsAt w (.slice a len c) l) (hlen : len = l.length) (hf : Fit (l.map Ro.p)) :
    Calls Try.prog 5 #[.slice a len c, .agg #[.int .i64 fr, .int .i64 to]] w fun e w' => e = .returned (.bool true) ∧ Kept w w' := by
  obtain ⟨W, hW⟩ : ∃ W, W = w.alloc (.cells #[.int .i64 fr, .int .i64 to] 44) := ⟨_, rfl⟩
  have gW : Grows w W := by rw [hW]; exact Grows.alloc _ _
  have bW : W.heap[w.heap.size]? = some (.cells #[.int .i64 fr, .int .i64 to] 44 (0, 0)) := by rw [hW]; exact (MapKept.heap_alloc _ _).1
  have hlb := h.len
  have hlen2 : len < 2199023255552 := by omega
  have HR := Lib.hid h
  have HLEN := Lib.hid hlen
  have HF := Lib.hid hf
  have HW := Lib.hid hW
  have GW := Lib.hid gW
  have BW := Lib.hid bW
  have e1 : len ≤ l.length := by omega
  have e2 : l.length ≤ len := by omega
  clear h hlen hf hW gW bW hlb
  by_cases h300 : 300 < len
  · have b300 : (300 : Int) < (len : Int) := by omega
    go_enter Try.func5, Try.ntmps5
    go_wp2_with fail
    rw [← HW.out]
    refine (awake_is W).mono ?_
    rintro e w1 ⟨rfl, hk1⟩
    have K1 := Lib.hid (GW.out.kept.trans hk1)
    clear hk1
    go_wp2_with fail
    go_ret
    exact ⟨rfl, K1.out⟩
  · have b300 : ¬ (300 : Int) < (len : Int) := by omega
    have hl : l.length < 1099511627776 := by omega
    go_enter Try.func5, Try.ntmps5
    go_wp2_with fail
    rw [← HW.out]
    refine (awake_is W).mono ?_
    rintro e w1 ⟨rfl, hk1⟩
    have K1 := Lib.hid (GW.out.kept.trans hk1)
    have BW1 := Lib.hid ((hk1.block _ (Array.getElem?_eq_some_iff.1 BW.out).1).trans BW.out)
    clear hk1
    go_wp2_with fail
    go_loopw [6, 7] (fun vn vi wr => ∃ (i : Nat) (s : Int), vi = .int .i64 i ∧ vn = .int .u64 s ∧ i ≤ len ∧ Hid (wr = w1) ∧ Hid (s = wu (sumN ((l.take i).map Ro.p)))) (fun _ vi _ => len - (intOf vi).toNat)
    case atStart => exact ⟨0, 0, rfl, rfl, by omega, rfl, (show _ = _ from rfl)⟩
    case round =>
      obtain ⟨i, s, rfl, rfl, hi, HWR, HS⟩ := hrel
      by_cases hlt : i < len
      · have k1 : i < l.length := by omega
        obtain ⟨A, rfl⟩ := rows_some HR.out k1
        obtain ⟨x, hx⟩ : ∃ x, l[i]? = some x := ⟨_, List.getElem?_eq_getElem k1⟩
        obtain ⟨_, _, _, x3, _⟩ := rows_kept HR.out K1.out hx
        rw [← HWR.out] at x3
        have q1 : (i : Int) < (len : Int) := by omega
        have HX := Lib.hid hx
        clear hx k1
        go_wp2_with fail
        go_roundw
        case rel =>
          refine ⟨i + 1, _, by go_num, rfl, hlt, HWR, ?_⟩
          show _ = _
          rw [← sumN_take HX.out, ← HS.out]
          rfl
        case measure => simp [intOf]; omega
      · obtain rfl : i = len := by omega
        have hsum : s = wu (sumN (l.map Ro.p)) := by
          have := HS.out
          rwa [List.take_of_length_le e2] at this
        have HSUM := Lib.hid hsum
        have hwr := HWR.out
        subst hwr
        have s0 : wr.cell? ⟨w.heap.size, 0, none⟩ = some (.int .i64 fr) := by simp only [World.cell?, BW1.out]; rfl
        have s1 : wr.cell? ⟨w.heap.size, 1, none⟩ = some (.int .i64 to) := by simp only [World.cell?, BW1.out]; rfl
        clear hsum HS HWR
        go_wp2_with fail
        have KSp := Lib.hid ((K1.out).trans (Grows.drew wr).kept)
        go_region_held3 (fun w' => w'.cell? ⟨w.heap.size, 0, none⟩ = some (.int .i64 fr) ∧ w'.cell? ⟨w.heap.size, 1, none⟩ = some (.int .i64 to)) (first | exact ⟨s0, s1⟩ | exact ⟨KAp.out.cell s0, KAp.out.cell s1⟩ | exact ⟨KBp.out.cell (KAp.out.cell s0), KBp.out.cell (KAp.out.cell s1)⟩ | exact ⟨KCp.out.cell (KBp.out.cell (KAp.out.cell s0)), KCp.out.cell (KBp.out.cell (KAp.out.cell s1))⟩)
          (first | (go_at_call 19; refine (fWithin_is a i c l fr to _ (HR.out.kept KSp.out) HF.out).mono ?_; rintro e vap ⟨a1p, n1p, c1p, l1p, rfl, h1p, hk1p⟩; have KAp := Lib.hid hk1p; have H1p := Lib.hid h1p; clear h1p hk1p) | (go_at_call 20; refine (refWithin_true a i c l fr to _ (HR.out.kept (KSp.out.trans KAp.out)) HLEN.out hl).mono ?_; rintro e vbp ⟨a2p, n2p, c2p, l2p, rfl, h2p, hk2p⟩; have KBp := Lib.hid hk2p; have H2p := Lib.hid h2p; clear h2p hk2p) | (go_at_call 18; refine (is_is a1p a2p n1p n2p c1p c2p l1p l2p _ ((H1p.out.2.1.rowsAt (fun y hy => (H1p.out.2.2.2 y hy).1) (rows_len H1p.out.2.2.1 (own_len hl))).kept KBp.out) (H2p.out.2.1.rowsAt H2p.out.2.2.2 (rows_len H2p.out.2.2.1 (filt_len hl))) H1p.out.1 H2p.out.1).mono ?_; rintro e vcp ⟨rfl, hgp⟩; rw [H1p.out.2.2.1, H2p.out.2.2.1, span_eq fr to _ HF.out]; have KCp := Lib.hid hgp.kept; clear hgp))
        have KEp := Lib.hid (((KSp.out.trans KAp.out).trans KBp.out).trans KCp.out)
        have s0' : vcp.cell? ⟨w.heap.size, 0, none⟩ = some (.int .i64 fr) := KCp.out.cell (KBp.out.cell (KAp.out.cell s0))
        have s1' : vcp.cell? ⟨w.heap.size, 1, none⟩ = some (.int .i64 to) := KCp.out.cell (KBp.out.cell (KAp.out.cell s1))
        clear s0 s1
        have s0 := s0'
        have s1 := s1'
        clear s0' s1'
        go_wp2_with fail
        have KSq := Lib.hid ((KEp.out).trans (Grows.drew vcp).kept)
        go_region_held3 (fun w' => w'.cell? ⟨w.heap.size, 0, none⟩ = some (.int .i64 fr) ∧ w'.cell? ⟨w.heap.size, 1, none⟩ = some (.int .i64 to)) (first | exact ⟨s0, s1⟩ | exact ⟨KAq.out.cell s0, KAq.out.cell s1⟩ | exact ⟨KBq.out.cell (KAq.out.cell s0), KBq.out.cell (KAq.out.cell s1)⟩ | exact ⟨KCq.out.cell (KBq.out.cell (KAq.out.cell s0)), KCq.out.cell (KBq.out.cell (KAq.out.cell s1))⟩)
          (first | (go_at_call 21; refine (fWithout_is a i c l fr to _ (HR.out.kept KSq.out) HF.out).mono ?_; rintro e vaq ⟨a1q, n1q, c1q, l1q, rfl, h1q, hk1q⟩; have KAq := Lib.hid hk1q; have H1q := Lib.hid h1q; clear h1q hk1q) | (go_at_call 20; refine (refWithin_false a i c l fr to _ (HR.out.kept (KSq.out.trans KAq.out)) HLEN.out hl).mono ?_; rintro e vbq ⟨a2q, n2q, c2q, l2q, rfl, h2q, hk2q⟩; have KBq := Lib.hid hk2q; have H2q := Lib.hid h2q; clear h2q hk2q) | (go_at_call 18; refine (is_is a1q a2q n1q n2q c1q c2q l1q l2q _ ((H1q.out.2.1.rowsAt (fun y hy => (H1q.out.2.2.2 y hy).1) (rows_len H1q.out.2.2.1 (own_len hl))).kept KBq.out) (H2q.out.2.1.rowsAt H2q.out.2.2.2 (rows_len H2q.out.2.2.1 (filt_len hl))) H1q.out.1 H2q.out.1).mono ?_; rintro e vcq ⟨rfl, hgq⟩; rw [H1q.out.2.2.1, H2q.out.2.2.1, span_eq2 fr to _ HF.out]; have KCq := Lib.hid hgq.kept; clear hgq))
        have KEq := Lib.hid (((KSq.out.trans KAq.out).trans KBq.out).trans KCq.out)
        have s0' : vcq.cell? ⟨w.heap.size, 0, none⟩ = some (.int .i64 fr) := KCq.out.cell (KBq.out.cell (KAq.out.cell s0))
        have s1' : vcq.cell? ⟨w.heap.size, 1, none⟩ = some (.int .i64 to) := KCq.out.cell (KBq.out.cell (KAq.out.cell s1))
        clear s0 s1
        have s0 := s0'
        have s1 := s1'
        clear s0' s1'
        go_wp2_with fail
        have hcnt := count_is _ l vcq (HR.out.kept KEq.out)
        rw [← HSUM.out] at hcnt
        refine hcnt.mono ?_
        rintro e w9 ⟨rfl, hg9⟩
        have K9 := Lib.hid (KEq.out.trans hg9.kept)
        clear hg9 hcnt s0 s1
        go_wp2_with fail
        go_ret
        exact ⟨rfl, K9.out⟩

end Go.Proofs.Ytcbgnikbaepkaaa
