/- The disk as a state; what a call leaves of the rest of memory. -/
import Derived.Test.YtigbodokmkpohaaC
import Derived.Test.YtigbodokmkpohaaApp
namespace Go.Proofs.Ytigbodokmkpohaa
open Go.RowKit

/-- Nothing but blocks of F has turned, and new ones have come. -/
structure Keeps (F : Nat → Prop) (w w' : World) : Prop where
  os : w'.os = w.os
  tape : w'.tape = w.tape
  output : w'.output = w.output
  size : w.heap.size ≤ w'.heap.size
  block : ∀ k, k < w.heap.size → ¬ F k → w'.heap[k]? = w.heap[k]?

theorem Keeps.refl (F : Nat → Prop) (w : World) : Keeps F w w := ⟨rfl, rfl, rfl, Nat.le_refl _, fun _ _ _ => rfl⟩

theorem Keeps.trans {F : Nat → Prop} {a b c : World} (h : Keeps F a b) (k : Keeps F b c) : Keeps F a c :=
  ⟨k.os.trans h.os, k.tape.trans h.tape, k.output.trans h.output, Nat.le_trans h.size k.size, fun i hi hf => (k.block i (Nat.lt_of_lt_of_le hi h.size) hf).trans (h.block i hi hf)⟩

/-- What the second step may turn may be new. -/
theorem Keeps.trans' {F G : Nat → Prop} {a b c : World} (h : Keeps F a b) (k : Keeps G b c) (hg : ∀ i, i < a.heap.size → G i → F i) : Keeps F a c :=
  ⟨k.os.trans h.os, k.tape.trans h.tape, k.output.trans h.output, Nat.le_trans h.size k.size, fun i hi hf => (k.block i (Nat.lt_of_lt_of_le hi h.size) (fun g => hf (hg i hi g))).trans (h.block i hi hf)⟩

theorem Keeps.mono {F G : Nat → Prop} {w w' : World} (h : Keeps F w w') (hf : ∀ k, k < w.heap.size → F k → G k) : Keeps G w w' :=
  ⟨h.os, h.tape, h.output, h.size, fun i hi hg => h.block i hi (fun f => hg (hf i hi f))⟩

theorem Keeps.grown {F : Nat → Prop} {w w' : World} {row : Option Nat} (h : w.grownBy w' row) (hr : ∀ k, row = some k → k < w.heap.size → F k) : Keeps F w w' :=
  ⟨h.os, h.tape, h.output, h.size, fun i hi hf => h.block i hi (fun e => hf (hr i e.symm hi))⟩

theorem Keeps.alloc (F : Nat → Prop) (w : World) (o : Obj) : Keeps F w (w.alloc o) :=
  Keeps.grown (World.grownBy_alloc w o none) (fun _ e => by cases e)

theorem Keeps.drewN (F : Nat → Prop) (w : World) (n : Nat) : Keeps F w (w.drewN n) := ⟨rfl, rfl, rfl, Nat.le_refl _, fun _ _ _ => rfl⟩

theorem Keeps.setCell {F : Nat → Prop} (w : World) (a : Addr) (u : Value) (h : a.block < w.heap.size → F a.block) : Keeps F w (w.setCell a u) :=
  ⟨rfl, rfl, rfl, by simp [World.setCell], fun k hk hf => Below.heap_setCell w a u k (fun e => hf (by rw [e]; exact h (by rw [← e]; exact hk)))⟩

theorem Keeps.below {F : Nat → Prop} {B : Nat} {w w' : World} (h : Keeps F w w') (hB : B ≤ w.heap.size) (hf : ∀ k, F k → B ≤ k) : Below B w w' :=
  ⟨h.os, h.tape, h.output, h.size, fun k hk => h.block k (by omega) (fun f => by have := hf k f; omega)⟩

theorem heap_setCell_at {w : World} {D i : Nat} {c : Array Value} {e : TypeId} {z : Nat × Nat} (h : w.heap[D]? = some (.cells c e z)) (v : Value) :
    (w.setCell ⟨D, i, none⟩ v).heap[D]? = some (.cells (c.setIfInBounds i v) e z) := by
  simp [World.setCell, Array.getElem?_modify, h]

/-- A file of the disk. -/
structure DF where
  blk : Nat
  v : Value
  bytes : List UInt8
  syn : Nat

def DF.ptr (f : DF) : Value := .pointer (some ⟨f.blk, 0, none⟩)

structure DS where
  off : Bool
  ops : Nat
  cutAt : Int
  part : Int
  n : Nat
  fs : ByteArray → Option DF

def DS.ptrs (S : DS) : ByteArray → Option Value := fun s => (S.fs s).map DF.ptr

/-- The disk's memory but for its files' rows. -/
structure DiskIs (w : World) (base D M : Nat) (S : DS) : Prop where
  disk : w.heap[D]? = some (.cells #[.map (some M), .bool S.off, .int .i64 S.ops, .int .i64 S.cutAt, .int .i64 S.part] 49 (0, 0))
  map : HasMap w M S.n S.ptrs
  file : ∀ s f, S.fs s = some f → w.heap[f.blk]? = some (.cells #[f.v, .int .i64 f.syn] 53 (0, 0))
  syn : ∀ s f, S.fs s = some f → f.syn ≤ f.bytes.length
  lo : base ≤ D ∧ base ≤ M ∧ ∀ s f, S.fs s = some f → base ≤ f.blk
  inj : ∀ s t f g, S.fs s = some f → S.fs t = some g → f.blk = g.blk → s = t

/-- Each file's row is the disk's own. -/
structure Owned (w : World) (base : Nat) (S : DS) : Prop where
  row : ∀ s f, S.fs s = some f → w.ownsRow base 5 1 f.v f.bytes.length (cellsOf f.bytes)
  apart : ∀ s t f g k, S.fs s = some f → S.fs t = some g → f.v.ownBlock = some k → g.v.ownBlock = some k → s = t

def Foot (D M : Nat) (S : DS) (b : Nat) : Prop := b = D ∨ b = M ∨ ∃ s f, S.fs s = some f ∧ (b = f.blk ∨ f.v.ownBlock = some b)

theorem Try.info5 : (Try.prog.info? 5).map (fun i => (i.zero, i.size, i.bytes)) = some (some (.int .u8 0), 1, 1) := by kernel_rfl

end Go.Proofs.Ytigbodokmkpohaa
