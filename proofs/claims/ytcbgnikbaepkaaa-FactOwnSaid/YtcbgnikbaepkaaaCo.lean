/- Count. -/
import Derived.Test.YtcbgnikbaepkaaaPm
import Derived.Test.YtcbgnikbaepkaaaBa
namespace Go.Proofs.Ytcbgnikbaepkaaa
open Go.Shelf Go.RowKit Go.Lib Go.Sort Go.Proofs

theorem sumN_take {l : List Ro} {k : Nat} {x : Ro} (hx : l[k]? = some x) : wu (wu (sumN ((l.take k).map Ro.p)) + x.n) = wu (sumN ((l.take (k + 1)).map Ro.p)) := by
  rw [take_p hx, sumN_append, wu_l]
  congr 1
  simp only [Ro.p, sumN]; omega

set_option maxHeartbeats 1600000 in
set_option maxRecDepth 100000 in
theorem count_is (v : Value) (l : List Ro) (w : World) (h : RowsAt w v l) :
    Calls Try.prog 17 #[v] w fun e w' => e = .returned (.int .u64 (wu (sumN (l.map Ro.p)))) ∧ Grows w w' := by
  obtain ⟨a, c, rfl⟩ := h.slice
  have hlen := h.len
  have HR := Lib.hid h
  clear h
  go_enter Try.func17, Try.ntmps17
  go_wp2_with fail
  go_loopw [2, 7] (fun n i wr => ∃ (k : Nat) (s : Int), k ≤ l.length ∧ i = .int .i64 k ∧ n = .int .u64 s ∧ Hid (s = wu (sumN ((l.take k).map Ro.p))) ∧ Grows w wr) (fun _ i _ => l.length - (intOf i).toNat)
  case atStart => exact ⟨0, 0, by omega, rfl, rfl, (show _ = _ from rfl), Grows.refl _⟩
  case round =>
    obtain ⟨k, s, hk, rfl, rfl, HS, hg⟩ := hrel
    have HG := Lib.hid hg
    by_cases hlt : k < l.length
    · obtain ⟨A, rfl, hc⟩ := HR.out.cells _ _ _ rfl k hlt
      obtain ⟨x, hx⟩ : ∃ x, l[k]? = some x := ⟨_, List.getElem?_eq_getElem hlt⟩
      have hxe : l[k] = x := (List.getElem?_eq_some_iff.1 hx).2
      rw [hxe] at hc
      have x0 : wr.cell? (A.add (k * 4)) = some (.int .i64 x.f.time) := hg.cell (hc 0 _ rfl)
      have x1 : wr.cell? ⟨(A.add (k * 4)).block, (A.add (k * 4)).off + 1, none⟩ = some (.slice x.da x.dn x.dc) := hg.cell (hc 1 _ rfl)
      have x2 : wr.cell? ⟨(A.add (k * 4)).block, (A.add (k * 4)).off + 2, none⟩ = some (.slice x.ma x.mn x.mc) := hg.cell (hc 2 _ rfl)
      have x3 : wr.cell? ⟨(A.add (k * 4)).block, (A.add (k * 4)).off + 3, none⟩ = some (.int .u64 x.n) := hg.cell (hc 3 _ rfl)
      have HX := Lib.hid hx
      clear hx hxe hc hg
      go_wp2_with fail
      go_roundw
      case rel =>
        refine ⟨k + 1, _, by omega, by go_num, rfl, ?_, HG.out.trans (Grows.alloc _ _)⟩
        show _ = _
        rw [← sumN_take HX.out, ← HS.out]
        rfl
      case measure => simp [intOf]; omega
    · obtain rfl : k = l.length := by omega
      clear hg
      go_wp2_with fail
      go_ret
      refine ⟨?_, HG.out⟩
      have := HS.out
      rw [List.take_length] at this
      rw [← this]
      rfl

end Go.Proofs.Ytcbgnikbaepkaaa
