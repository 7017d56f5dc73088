/- Rows exchanged: the kit's words at rows of four cells. -/
import Derived.Test.YtcbgnikbaepkaaaP
import Derived.Test.YtcbgnikbaepkaaaSy
import Derived.Shelf.SlSortCmp.KitK
import Derived.BigRegion
import Derived.Deep.LoopGhost
namespace Go.Proofs.Ytcbgnikbaepkaaa
open Go.Shelf Go.RowKit Go.Lib Go.Sort Go.Proofs

/-- A world of the sort's. -/
abbrev SW (w0 w : World) (blk : Nat) (dk : Array (Rw w0)) (W : World) : Prop := SWK (Rw.enc (w := w0)) 4 w blk 0 dk W
abbrev RK (w0 w : World) (blk : Nat) (d0 : Array (Rw w0)) : Prop := RowK (Rw.enc (w := w0)) 4 w blk 0 d0

/-- The four cells of a row. -/
structure At4 (W : World) (blk i : Nat) (x : Ro) : Prop where
  c0 : W.cell? ⟨blk, i * 4, none⟩ = some (.int .i64 x.f.time)
  c1 : W.cell? ⟨blk, i * 4 + 1, none⟩ = some (.slice x.da x.dn x.dc)
  c2 : W.cell? ⟨blk, i * 4 + 2, none⟩ = some (.slice x.ma x.mn x.mc)
  c3 : W.cell? ⟨blk, i * 4 + 3, none⟩ = some (.int .u64 x.n)
  f0 : W.frozen? ⟨blk, i * 4, none⟩ = false
  f1 : W.frozen? ⟨blk, i * 4 + 1, none⟩ = false
  f2 : W.frozen? ⟨blk, i * 4 + 2, none⟩ = false
  f3 : W.frozen? ⟨blk, i * 4 + 3, none⟩ = false

theorem sw_at {w0 w W : World} {blk : Nat} {d0 dk : Array (Rw w0)} (h : SW w0 w blk dk W) (R : RK w0 w blk d0) (hs : dk.size = d0.size) {i : Nat} (hi : i < dk.size) : At4 W blk i dk[i]!.1 := by
  have hH := h.holds R.hblk R.hH hs
  have h0 := HoldsK.cell hH (i := i) (c := 0) hi (by decide)
  have h1 := HoldsK.cell hH (i := i) (c := 1) hi (by decide)
  have h2 := HoldsK.cell hH (i := i) (c := 2) hi (by decide)
  have h3 := HoldsK.cell hH (i := i) (c := 3) hi (by decide)
  rw [Nat.zero_add] at h0 h1 h2 h3
  exact ⟨h0.1, h1.1, h2.1, h3.1, h0.2, h1.2, h2.2, h3.2⟩

theorem sw_swapped {w0 w W : World} {blk : Nat} {d0 dk : Array (Rw w0)} (h : SW w0 w blk dk W) (R : RK w0 w blk d0) (i j : Nat) (hi : i < dk.size) (hj : j < dk.size) :
    SW w0 w blk (swp dk i j) ((((((((W.setCell ⟨blk, i * 4, none⟩ (.int .i64 dk[j]!.1.f.time)).setCell ⟨blk, i * 4 + 1, none⟩ (.slice dk[j]!.1.da dk[j]!.1.dn dk[j]!.1.dc)).setCell ⟨blk, i * 4 + 2, none⟩ (.slice dk[j]!.1.ma dk[j]!.1.mn dk[j]!.1.mc)).setCell ⟨blk, i * 4 + 3, none⟩ (.int .u64 dk[j]!.1.n)).setCell
      ⟨blk, j * 4, none⟩ (.int .i64 dk[i]!.1.f.time)).setCell ⟨blk, j * 4 + 1, none⟩ (.slice dk[i]!.1.da dk[i]!.1.dn dk[i]!.1.dc)).setCell ⟨blk, j * 4 + 2, none⟩ (.slice dk[i]!.1.ma dk[i]!.1.mn dk[i]!.1.mc)).setCell ⟨blk, j * 4 + 3, none⟩ (.int .u64 dk[i]!.1.n)).drew := by
  have := h.swapped R i j hi hj
  rw [Nat.zero_add, Nat.zero_add] at this
  generalize dk[i]! = x at this ⊢
  generalize dk[j]! = y at this ⊢
  simp only [Rw.enc, Ro.enc, World.setCells, World.setCell_drew, Nat.add_assoc, Nat.reduceAdd] at this
  exact this

theorem at4_other {W : World} {blk i j : Nat} {x y : Ro} (h : At4 W blk j x) (hij : i ≠ j) : At4 ((((W.setCell ⟨blk, i * 4, none⟩ (.int .i64 y.f.time)).setCell ⟨blk, i * 4 + 1, none⟩ (.slice y.da y.dn y.dc)).setCell ⟨blk, i * 4 + 2, none⟩ (.slice y.ma y.mn y.mc)).setCell ⟨blk, i * 4 + 3, none⟩ (.int .u64 y.n)) blk j x := by
  have hc : ∀ o, (o < i * 4 ∨ i * 4 + 4 ≤ o) → ((((W.setCell ⟨blk, i * 4, none⟩ (.int .i64 y.f.time)).setCell ⟨blk, i * 4 + 1, none⟩ (.slice y.da y.dn y.dc)).setCell ⟨blk, i * 4 + 2, none⟩ (.slice y.ma y.mn y.mc)).setCell ⟨blk, i * 4 + 3, none⟩ (.int .u64 y.n)).cell? ⟨blk, o, none⟩ = W.cell? ⟨blk, o, none⟩ := fun o ho =>
    World.cell?_setCells_out blk [.int .i64 y.f.time, .slice y.da y.dn y.dc, .slice y.ma y.mn y.mc, .int .u64 y.n] (i * 4) W ⟨blk, o, none⟩ (fun _ _ => by simpa using ho)
  have hf : ∀ o, ((((W.setCell ⟨blk, i * 4, none⟩ (.int .i64 y.f.time)).setCell ⟨blk, i * 4 + 1, none⟩ (.slice y.da y.dn y.dc)).setCell ⟨blk, i * 4 + 2, none⟩ (.slice y.ma y.mn y.mc)).setCell ⟨blk, i * 4 + 3, none⟩ (.int .u64 y.n)).frozen? ⟨blk, o, none⟩ = W.frozen? ⟨blk, o, none⟩ := fun o =>
    World.frozen?_setCells blk [.int .i64 y.f.time, .slice y.da y.dn y.dc, .slice y.ma y.mn y.mc, .int .u64 y.n] (i * 4) W ⟨blk, o, none⟩
  exact ⟨(hc _ (by omega)).trans h.c0, (hc _ (by omega)).trans h.c1, (hc _ (by omega)).trans h.c2, (hc _ (by omega)).trans h.c3, (hf _).trans h.f0, (hf _).trans h.f1, (hf _).trans h.f2, (hf _).trans h.f3⟩

end Go.Proofs.Ytcbgnikbaepkaaa
