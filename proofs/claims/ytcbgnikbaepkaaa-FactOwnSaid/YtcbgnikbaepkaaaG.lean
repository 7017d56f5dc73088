/- The sort of few rows. -/
import Derived.Test.YtcbgnikbaepkaaaF
import Derived.Shelf.SlSortCmp.InsertionK
import Derived.Shelf.SlGeneric
import Derived.Ground.SlsfProg
namespace Go.Proofs.Ytcbgnikbaepkaaa
open Go.Shelf Go.RowKit Go.Lib Go.Sort Go.Proofs
def Try.ins_ren : Go.Shelf.Ren := ⟨fun | 20 => 57 | n => n, fun | 24 => 40 | 22 => 36 | 3 => 3 | 25 => 71 | 4 => 4 | 0 => 0 | n => n, fun | n => n⟩
theorem Try.ins : Go.Proofs.SlLaysF0.n20 Try.prog Try.ins_ren := {
  mixed := by kernel_rfl
  f20 := ⟨Try.f57.name, by decide, Try.func57.trans (congrArg some (by kernel_rfl))⟩
  t0 := Try.underlying0
  a0 := Try.isAgg0
  z0 := Try.sizeOf0
  v0 := Try.zeroValue0
  t3 := Try.underlying3
  a3 := Try.isAgg3
  z3 := Try.sizeOf3
  v3 := Try.zeroValue3
  t4 := Try.underlying4
  a4 := Try.isAgg4
  z4 := Try.sizeOf4
  v4 := Try.zeroValue4
  t22 := Try.underlying36
  a22 := Try.isAgg36
  z22 := Try.sizeOf36
  v22 := Try.zeroValue36
  t25 := Try.underlying71
  a25 := Try.isAgg71
  z25 := Try.sizeOf71
  v25 := Try.zeroValue71 }

/-- A row: a fact's two slices, what they hold, so often. -/
structure Ro where
  da : Option Addr
  dn : Nat
  dc : Nat
  ma : Option Addr
  mn : Nat
  mc : Nat
  f : Fa
  n : Int

def Ro.d (x : Ro) : Value := .slice x.da x.dn x.dc
def Ro.m (x : Ro) : Value := .slice x.ma x.mn x.mc
def Ro.enc (x : Ro) : List Value := [.int .i64 x.f.time, x.d, x.m, .int .u64 x.n]

/-- The row's fact lies in this world. -/
def Ro.ok (w : World) (x : Ro) : Prop := FaAt w x.d x.m x.f

def Rw (w : World) : Type := { x : Ro // x.ok w }

def Ro.none : Ro := ⟨Option.none, 0, 0, Option.none, 0, 0, ⟨0, [], []⟩, 0⟩
theorem Ro.none_ok (w : World) : Ro.none.ok w := ⟨.inl ⟨rfl, rfl⟩, .inl ⟨rfl, rfl⟩, by decide, by decide⟩
instance (w : World) : Inhabited (Rw w) := ⟨⟨Ro.none, Ro.none_ok w⟩⟩

def Rw.enc {w : World} (x : Rw w) : List Value := x.1.enc
def Rw.cf {w : World} (x y : Rw w) : Int := cmpF x.1.f y.1.f

/-- Old blocks are as they were. -/
structure Kept (w w' : World) : Prop where
  os : w'.os = w.os
  tape : w'.tape = w.tape
  output : w'.output = w.output
  size : w.heap.size ≤ w'.heap.size
  block : ∀ k, k < w.heap.size → w'.heap[k]? = w.heap[k]?

theorem Kept.cell {w w' : World} (h : Kept w w') {a : Addr} {v : Value} (hc : w.cell? a = some v) : w'.cell? a = some v := by
  rw [← hc]; exact World.cell?_of_block (h.block _ (World.block_lt_of_cell? w _ hc))
theorem Cells.kept {w w' : World} {v : Value} {xs : List Value} (h : Cells w v xs) (hg : Kept w w') : Cells w' v xs := by
  rcases h with h | ⟨a, c, rfl, h⟩
  · exact .inl h
  · exact .inr ⟨a, c, rfl, fun j u hu => hg.cell (h j u hu)⟩
theorem FaAt.kept {w w' : World} {d m : Value} {f : Fa} (h : FaAt w d m f) (hg : Kept w w') : FaAt w' d m f := ⟨h.dims.kept hg, h.meas.kept hg, h.dl, h.ml⟩
theorem Grows.kept {w w' : World} (h : Grows w w') : Kept w w' := by
  obtain ⟨q, os, rfl⟩ := h
  exact ⟨rfl, rfl, rfl, Grows.size ⟨q, os, rfl⟩, Grows.block ⟨q, os, rfl⟩⟩
theorem Kept.refl (w : World) : Kept w w := ⟨rfl, rfl, rfl, Nat.le_refl _, fun _ _ => rfl⟩
theorem Kept.trans {a b c : World} (h : Kept a b) (k : Kept b c) : Kept a c :=
  ⟨k.os.trans h.os, k.tape.trans h.tape, k.output.trans h.output, Nat.le_trans h.size k.size, fun i hi => (k.block i (Nat.lt_of_lt_of_le hi h.size)).trans (h.block i hi)⟩

set_option maxHeartbeats 800000 in
set_option maxRecDepth 100000 in
theorem bagLess_is (x y : Ro) (w : World) (hx : x.ok w) (hy : y.ok w) :
    Calls Try.prog 46 #[.agg x.enc.toArray, .agg y.enc.toArray] w fun e w' => e = .returned (.int .i64 (cmpF x.f y.f)) ∧ Grows w w' := by
  change Calls Try.prog 46 #[.agg #[.int .i64 x.f.time, x.d, x.m, .int .u64 x.n], .agg #[.int .i64 y.f.time, y.d, y.m, .int .u64 y.n]] w _
  obtain ⟨W, hW⟩ : ∃ W, W = (w.alloc (.cells #[.int .i64 x.f.time, x.d, x.m, .int .u64 x.n] 40)).alloc (.cells #[.int .i64 y.f.time, y.d, y.m, .int .u64 y.n] 40) := ⟨_, rfl⟩
  have hG : Grows w W := by rw [hW]; exact (Grows.alloc _ _).trans (Grows.alloc _ _)
  have hs : (w.alloc (.cells #[.int .i64 x.f.time, x.d, x.m, .int .u64 x.n] 40)).heap.size = w.heap.size + 1 := by simp
  have a0 : (w.alloc (.cells #[.int .i64 x.f.time, x.d, x.m, .int .u64 x.n] 40)).heap[w.heap.size]? = some (.cells #[.int .i64 x.f.time, x.d, x.m, .int .u64 x.n] 40 (0, 0)) := (MapKept.heap_alloc _ _).1
  have b0 : W.heap[w.heap.size]? = some (.cells #[.int .i64 x.f.time, x.d, x.m, .int .u64 x.n] 40 (0, 0)) := by rw [hW, Below.heap_alloc _ _ _ (by simp)]; exact a0
  have b1 : W.heap[w.heap.size + 1]? = some (.cells #[.int .i64 y.f.time, y.d, y.m, .int .u64 y.n] 40 (0, 0)) := by rw [hW, ← hs]; exact (MapKept.heap_alloc _ _).1
  have x0 : W.cell? ⟨w.heap.size, 0, none⟩ = some (.int .i64 x.f.time) := by simp only [World.cell?, b0]; rfl
  have x1 : W.cell? ⟨w.heap.size, 1, none⟩ = some x.d := by simp only [World.cell?, b0]; rfl
  have x2 : W.cell? ⟨w.heap.size, 2, none⟩ = some x.m := by simp only [World.cell?, b0]; rfl
  have y0 : W.cell? ⟨w.heap.size + 1, 0, none⟩ = some (.int .i64 y.f.time) := by simp only [World.cell?, b1]; rfl
  have y1 : W.cell? ⟨w.heap.size + 1, 1, none⟩ = some y.d := by simp only [World.cell?, b1]; rfl
  have y2 : W.cell? ⟨w.heap.size + 1, 2, none⟩ = some y.m := by simp only [World.cell?, b1]; rfl
  have h := compare_is x.f y.f x.d x.m y.d y.m W (FaAt.grows hx hG) (FaAt.grows hy hG)
  have H := Lib.hid h
  have HG := Lib.hid hG
  have HW := Lib.hid hW
  clear hx hy hs a0 b0 b1 h hG hW
  go_enter Try.func46, Try.ntmps46
  go_wp2_with fail
  rw [← HW.out]
  refine H.out.mono ?_
  rintro e w' ⟨rfl, hg⟩
  have G2 := Lib.hid hg
  clear hg
  go_wp2_with fail
  go_ret
  exact ⟨rfl, HG.out.trans G2.out⟩

theorem sortWorldK_kept {α : Type} [Inhabited α] {w0 w : World} {blk : Nat} (hk : Kept w0 w) (h0 : w0.heap.size ≤ blk) (hblk : blk < w.heap.size) (enc : α → List Value) (k m : Nat) (dk : Array α) (os : Array Obj) : Kept w0 (sortWorldK enc k w blk 0 m dk os) := by
  refine ⟨hk.os, hk.tape, hk.output, Nat.le_trans hk.size (size_sortWorldK_c enc k w blk 0 m dk os), fun b hb => ?_⟩
  have hbw := Nat.lt_of_lt_of_le hb hk.size
  unfold sortWorldK
  rw [heap_grow_old _ _ (by rw [size_putRowK]; exact hbw)]
  refine Eq.trans ?_ (hk.block b hb)
  simp only [putRowK, putRow, mapBlock, Array.getElem?_modify]
  rw [if_neg (by omega)]
  rfl

theorem cmpLays {w0 w : World} {blk : Nat} (hk : Kept w0 w) (h0 : w0.heap.size ≤ blk) (hblk : blk < w.heap.size) (size : Nat) : CmpLays Try.prog 46 #[] (Rw.enc (w := w0)) 4 Rw.cf blk 0 size w := by
  intro m os dk _ x y
  have h := sortWorldK_kept hk h0 hblk (Rw.enc (w := w0)) 4 m dk os
  exact bagLess_is x.1 y.1 _ (FaAt.kept x.2 h) (FaAt.kept y.2 h)

theorem enc_len {w : World} (x : Rw w) : x.enc.length = 4 := rfl
theorem enc_one {w : World} (x : Rw w) : ∀ v ∈ x.enc, v.oneCell' = true := by
  intro v hv
  simp only [Rw.enc, Ro.enc, List.mem_cons, List.not_mem_nil, or_false] at hv
  rcases hv with rfl | rfl | rfl | rfl <;> rfl

theorem enters46 : ∀ args w, (callFunc 46 args).run Try.prog w = .ok (.enter 46 args) w := enters_of Try.func46 (by kernel_rfl) rfl

/-- Rows of a block sorted by insertion. -/
theorem insertion_is {w0 w : World} {blk cap a b : Nat} (d : Array (Rw w0)) (hk : Kept w0 w) (h0 : w0.heap.size ≤ blk) (hblk : blk < w.heap.size) (hH : HoldsK (Rw.enc (w := w0)) 4 w blk 0 d) (hab : a ≤ b) (hb : b ≤ d.size) (hsz : d.size < 4611686018427387904) :
    Calls Try.prog 57 #[.slice (some ⟨blk, 0, none⟩) d.size cap, .int .i64 a, .int .i64 b, .func (.func 46) #[] #[]] w fun e w' =>
      e = .returned (.tuple #[]) ∧ ∃ n os, w' = sortWorldK (Rw.enc (w := w0)) 4 w blk 0 n (Sort.insertionSort (ltOf Rw.cf) d a b) os :=
  AnyQ.insertionSortCmpFunc Try.ins 4 (fun w => by kernel_rfl) (fun w => by kernel_rfl) Rw.enc enc_len enc_one Rw.cf 46 #[] blk 0 cap a b d w enters46 (cmpLays hk h0 hblk d.size) hH hblk hab hb hsz

end Go.Proofs.Ytcbgnikbaepkaaa
