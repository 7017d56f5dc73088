/- The document's first examples. -/
import Derived.Test.YtigbodokmkpohaaP
import Derived.Lib.SlBytesConst
namespace Go.Proofs.Ytigbodokmkpohaa
open Go.RowKit

theorem DiskIs.alloc {w : World} {base D M : Nat} {S : DS} (h : DiskIs w base D M S) (ho : Owned w base S) (o : Obj) : DiskIs (w.alloc o) base D M S ∧ Owned (w.alloc o) base S :=
  ⟨h.kept (fun b hb => Below.heap_alloc _ _ _ (hb.lt h ho)), ho.kept (fun b hb => Below.heap_alloc _ _ _ (hb.lt h ho))⟩

/-- Nothing that was there has turned. -/
theorem DiskIs.kept' {w w' : World} {base D M : Nat} {S : DS} (h : DiskIs w base D M S) (hk : Keeps (fun _ => False) w w') : DiskIs w' base D M S :=
  ⟨(hk.block D h.D_lt id).trans h.disk, h.map.kept (hk.block M h.map.lt id), fun s f hf => (hk.block f.blk (h.blk_lt hf) id).trans (h.file s f hf), h.syn, h.lo, h.inj⟩

theorem Bytes.built (w : World) (l : List UInt8) (e : TypeId) (z : Nat × Nat) : Bytes (w.alloc (.cells (cellsOf l).toArray e z)) (.slice (some ⟨w.heap.size, 0, none⟩) l.length l.length) l := by
  refine .inr ⟨_, _, rfl, fun j u hu => ?_⟩
  have h1 : (⟨w.heap.size, 0, none⟩ : Addr).add j = ⟨w.heap.size, j, none⟩ := by unfold Addr.add; split <;> simp_all
  rw [h1]
  simp only [World.cell?, (MapKept.heap_alloc w _).1]
  simpa using hu

/-- What was read stays while the disk alone turns. -/
theorem Bytes.stays {w1 w2 : World} {v : Value} {l : List UInt8} {F : Nat → Prop} {B : Nat} (h : w1.ownsRow B 5 1 v l.length (cellsOf l)) (hk : Keeps F w1 w2) (hF : ∀ b, F b → b < B) : w2.ownsRow B 5 1 v l.length (cellsOf l) :=
  ownsRow_same h (fun k hkk => by
    have := h.lt k hkk
    exact hk.block k this.2 (fun f => by have := hF k f; omega))

def sA : ByteArray := ⟨#[97]⟩
theorem sA_named : Named sA := named_mk [97] (by decide) (by decide) (by decide)

/-- One file 'a' on the disk that the world w was given. -/
def Stage (w : World) (ops : Nat) (bytes : List UInt8) (syn : Nat) (w' : World) : Prop :=
  ∃ S f, DiskIs w' w.heap.size (w.heap.size + 1) w.heap.size S ∧ Owned w' w.heap.size S ∧ Keeps (fun _ => False) w w' ∧ S.off = false ∧ S.ops = ops ∧ S.cutAt = -1 ∧ S.fs sA = some f ∧ f.bytes = bytes ∧ f.syn = syn ∧
    ∀ s g, S.fs s = some g → s = sA

/-- .. and all its memory lies below B. -/
def StageB (w : World) (ops : Nat) (bytes : List UInt8) (syn : Nat) (B : Nat) (w' : World) : Prop :=
  ∃ S f, DiskIs w' w.heap.size (w.heap.size + 1) w.heap.size S ∧ Owned w' w.heap.size S ∧ Keeps (fun _ => False) w w' ∧ S.off = false ∧ S.ops = ops ∧ S.cutAt = -1 ∧ S.fs sA = some f ∧ f.bytes = bytes ∧ f.syn = syn ∧
    (∀ s g, S.fs s = some g → s = sA) ∧ ∀ b, Foot (w.heap.size + 1) w.heap.size S b → b < B

/-- Behind a cut. -/
def Cutd (w : World) (off : Bool) (ops : Nat) (bytes : List UInt8) (w' : World) : Prop :=
  ∃ S f, DiskIs w' w.heap.size (w.heap.size + 1) w.heap.size S ∧ Keeps (fun _ => False) w w' ∧ S.off = off ∧ S.ops = ops ∧ S.fs sA = some f ∧ f.bytes = bytes ∧ Bytes w' f.v f.bytes ∧ (∀ k, f.v.ownBlock = some k → k < w'.heap.size ∧ k ≠ w.heap.size + 1)

/-- Rows of bytes that are read stay. -/
def RowsStay (B : Nat) (w w' : World) : Prop := ∀ v l, w.ownsRow B 5 1 v l.length (cellsOf l) → w'.ownsRow B 5 1 v l.length (cellsOf l)

theorem foot_new {w w' w'' : World} {S : DS} (hd : DiskIs w' w.heap.size (w.heap.size + 1) w.heap.size S) (ho : Owned w' w.heap.size S) (h : Keeps (fun _ => False) w w') (k : Keeps (Foot (w.heap.size + 1) w.heap.size S) w' w'') : Keeps (fun _ => False) w w'' :=
  h.trans' k (fun i hi hf => by have := hf.lo hd ho; omega)

theorem stage_first {w w1 : World} (l : List UInt8) (z : Nat × Nat) (hl : l.length ≤ 100) (hd : DiskIs w1 w.heap.size (w.heap.size + 1) w.heap.size DS.none) (ho : Owned w1 w.heap.size DS.none) (hk : Keeps (fun _ => False) w w1) :
    Calls Try.prog 7 #[.pointer (some ⟨w.heap.size + 1, 0, none⟩), .string sA, .slice (some ⟨w1.heap.size, 0, none⟩) l.length l.length] (w1.alloc (.cells (cellsOf l).toArray 5 z)) fun e w' => e = .returned (.int .i64 0) ∧ Stage w 1 l 0 w' := by
  obtain ⟨h1, h2⟩ := hd.alloc ho (.cells (cellsOf l).toArray 5 z)
  have hsz := hk.size
  refine (append_new w.heap.size (w.heap.size + 1) w.heap.size DS.none sA _ l _ h1 h2 sA_named rfl (Bytes.built w1 l 5 z) (fun k e => by cases e; simp) (fun k e => by cases e; have := hd.map.lt; simp only; omega) rfl (by decide) (by decide) (by decide) (by omega) (by simp; omega)).mono ?_
  rintro e w' ⟨he, blk, v', r1, r2, r3, r4, r5⟩
  refine ⟨he, appendedNew DS.none sA blk v' l, { blk := blk, v := v', bytes := l, syn := 0 }, r1, r2, foot_new h1 h2 (hk.trans (Keeps.alloc _ _ _)) r3, rfl, rfl, rfl, by simp [appendedNew, upd], rfl, rfl, fun s g hg => ?_⟩
  simp only [appendedNew, upd, DS.none] at hg
  by_cases h : s = sA
  · exact h
  · rw [if_neg h] at hg; cases hg

theorem stage_append {w w1 : World} {ops syn : Nat} {bytes : List UInt8} (h : Stage w ops bytes syn w1) (l : List UInt8) (z : Nat × Nat) (hl : bytes.length + l.length ≤ 100) (hops : ops ≤ 100) :
    Calls Try.prog 7 #[.pointer (some ⟨w.heap.size + 1, 0, none⟩), .string sA, .slice (some ⟨w1.heap.size, 0, none⟩) l.length l.length] (w1.alloc (.cells (cellsOf l).toArray 5 z)) fun e w' => e = .returned (.int .i64 0) ∧ Stage w (ops + 1) (bytes ++ l) syn w' := by
  obtain ⟨S, f, hd, ho, hk, s1, s2, s3, hf, b1, b2, hall⟩ := h
  obtain ⟨h1, h2⟩ := hd.alloc ho (.cells (cellsOf l).toArray 5 z)
  have hsz := hk.size
  refine (append_old w.heap.size (w.heap.size + 1) w.heap.size S sA f _ l _ h1 h2 sA_named hf (Bytes.built w1 l 5 z) (fun k e => by cases e; simp) s1 (by omega) (by omega) (by rw [b1]; omega) (by simp; omega)).mono ?_
  rintro e w' ⟨he, v', r1, r2, r3, r4⟩
  refine ⟨he, appended S sA f v' l, { f with v := v', bytes := f.bytes ++ l }, r1, r2, foot_new h1 h2 (hk.trans (Keeps.alloc _ _ _)) r3, s1, by simp [appended, s2], s3, by simp [appended, upd], by simp [b1], b2, fun s g hg => ?_⟩
  simp only [appended, upd] at hg
  by_cases h : s = sA
  · exact h
  · rw [if_neg h] at hg; exact hall s g hg

theorem stage_sync {w w1 : World} {ops syn : Nat} {bytes : List UInt8} (h : Stage w ops bytes syn w1) (hl : bytes.length ≤ 100) (hops : ops ≤ 100) :
    Calls Try.prog 16 #[.pointer (some ⟨w.heap.size + 1, 0, none⟩), .string sA] w1 fun e w' => e = .returned (.int .i64 0) ∧ Stage w (ops + 1) bytes bytes.length w' := by
  obtain ⟨S, f, hd, ho, hk, s1, s2, s3, hf, b1, b2, hall⟩ := h
  refine (sync_some w.heap.size (w.heap.size + 1) w.heap.size S sA f _ hd ho sA_named hf s1 (by omega) (by omega) (by rw [b1]; omega)).mono ?_
  rintro e w' ⟨he, r1, r2, r3⟩
  refine ⟨he, synced S sA f, { f with syn := f.bytes.length }, r1, r2, foot_new hd ho hk r3, s1, by simp [synced, s2], s3, by simp [synced, upd], b1, by simp [b1], fun s g hg => ?_⟩
  simp only [synced, upd] at hg
  by_cases h : s = sA
  · exact h
  · rw [if_neg h] at hg; exact hall s g hg

theorem stage_read {w w1 : World} {ops syn : Nat} {bytes : List UInt8} (h : Stage w ops bytes syn w1) (hl : bytes.length ≤ 100) :
    Calls Try.prog 10 #[.pointer (some ⟨w.heap.size + 1, 0, none⟩), .string sA] w1 fun e w' => ∃ a' c', e = .returned (.tuple #[.slice a' bytes.length c', .int .i64 0]) ∧ StageB w ops bytes syn w1.heap.size w' ∧ w'.ownsRow w1.heap.size 5 1 (.slice a' bytes.length c') bytes.length (cellsOf bytes) ∧ Keeps (fun _ => False) w1 w' := by
  obtain ⟨S, f, hd, ho, hk, s1, s2, s3, hf, b1, b2, hall⟩ := h
  refine (read_some w.heap.size (w.heap.size + 1) w.heap.size S sA f _ hd (Bytes.of_own (ho.row _ _ hf)) (fun k hk => ho.lt hf hk) sA_named hf s1 (by rw [b1]; omega)).mono ?_
  rintro e w' ⟨a', c', he, r1, r2⟩
  subst b1
  refine ⟨a', c', he, ⟨S, f, hd.kept (fun b hb => r2.block b (hb.lt hd ho) id), ho.kept (D := w.heap.size + 1) (M := w.heap.size) (fun b hb => r2.block b (hb.lt hd ho) id), hk.trans r2, s1, s2, s3, hf, rfl, b2, hall, fun b hb => hb.lt hd ho⟩, r1, r2⟩

theorem stage_cut {w w1 : World} {ops syn B : Nat} {bytes : List UInt8} (h : StageB w ops bytes syn B w1) (hl : bytes.length ≤ 100) :
    Calls Try.prog 17 #[.pointer (some ⟨w.heap.size + 1, 0, none⟩), .int .i64 0] w1 fun e w' => e = .returned (.tuple #[]) ∧ Cutd w true ops (bytes.take syn) w' ∧ RowsStay B w1 w' := by
  obtain ⟨S, f, hd, ho, hk, s1, s2, s3, hf, b1, b2, hall, hB⟩ := h
  have hall' : ∀ s g, S.fs s = some g → g.bytes.length ≤ 140737488355328 := fun s g hg => by
    have := hall s g hg
    subst this
    rw [hf] at hg; cases hg
    rw [b1]; omega
  refine (cut_is w.heap.size (w.heap.size + 1) w.heap.size S 0 _ hd ho s1 (by decide) hall').mono ?_
  rintro e w' ⟨he, r1, r2, r3⟩
  have hf' : (cutS S 0).fs sA = some (cutF 0 f) := by simp [cutS, hf]
  have hn : cutN 0 f = syn := by unfold cutN; simp [b2]
  obtain ⟨q1, q2⟩ := r2 _ _ hf'
  refine ⟨he, ⟨_, _, r1, foot_new hd ho hk r3, rfl, s2, hf', by simp [cutF, hn, b1], q1, fun k hk => ⟨q2 k hk, ?_⟩⟩, fun v l hv => Bytes.stays hv r3 hB⟩
  have hk' : f.v.ownBlock = some k := by rw [← cutV_own f.v (cutN 0 f)]; exact hk
  exact (hd.row_ne ho hf hk').1

theorem cutd_on {w w1 : World} {off : Bool} {ops : Nat} {bytes : List UInt8} (h : Cutd w off ops bytes w1) (B : Nat) :
    Calls Try.prog 18 #[.pointer (some ⟨w.heap.size + 1, 0, none⟩)] w1 fun e w' => e = .returned (.tuple #[]) ∧ Cutd w false ops bytes w' ∧ RowsStay B w1 w' := by
  obtain ⟨S, f, hd, hk, s1, s2, hf, b1, b2, b3⟩ := h
  refine (on_is _ _ _ _ _ _ _ hd.disk).mono ?_
  rintro e w' ⟨he, rfl⟩
  have far : ∀ b : Nat, b ≠ w.heap.size + 1 → (w1.setCell ⟨w.heap.size + 1, 1, none⟩ (.bool false)).heap[b]? = w1.heap[b]? := fun b hb => Below.heap_setCell _ _ _ _ hb
  refine ⟨he, ⟨{ S with off := false }, f, ⟨?_, ?_, ?_, hd.syn, hd.lo, hd.inj⟩, hk.trans' (Keeps.setCell (F := fun b => b = w.heap.size + 1) _ _ _ (fun _ => rfl)) (fun i hi e => by omega), rfl, s2, hf, b1, b2.kept (fun k hk => far k (b3 k hk).2), fun k hk => ⟨by have := b3 k hk; simp [World.setCell]; omega, (b3 k hk).2⟩⟩, fun v l hv => ?_⟩
  · rw [heap_setCell_at hd.disk]; simp
  · exact hd.map.kept (far _ hd.M_ne_D)
  · intro s g hg
    rw [far _ (hd.blk_ne_D hg)]
    exact hd.file s g hg
  · refine ownsRow_same hv (fun k hk => far k ?_)
    rintro rfl
    obtain ⟨cur, hc⟩ := ownsRow_cells hv hk
    rw [hd.disk] at hc
    simp at hc

theorem cutd_read_off {w w1 : World} {ops : Nat} {bytes : List UInt8} (h : Cutd w true ops bytes w1) (s : ByteArray) :
    Calls Try.prog 10 #[.pointer (some ⟨w.heap.size + 1, 0, none⟩), .string s] w1 fun e w' => e = .returned (.tuple #[.slice none 0 0, .int .i64 122]) ∧ Cutd w true ops bytes w' ∧ Keeps (fun _ => False) w1 w' := by
  obtain ⟨S, f, hd, hk, s1, s2, hf, b1, b2, b3⟩ := h
  have hD := hd.disk
  rw [s1] at hD
  refine (read_off _ _ _ _ _ s _ hD).mono ?_
  rintro e w' ⟨he, hkk⟩
  have hsz := hkk.size
  refine ⟨he, ⟨S, f, hd.kept' hkk, hk.trans hkk, s1, s2, hf, b1, b2.kept (fun k hk => hkk.block k (b3 k hk).1 id), fun k hk => ⟨by have := b3 k hk; omega, (b3 k hk).2⟩⟩, hkk⟩

theorem cutd_read {w w1 : World} {ops : Nat} {bytes : List UInt8} (h : Cutd w false ops bytes w1) (hl : bytes.length ≤ 100) :
    Calls Try.prog 10 #[.pointer (some ⟨w.heap.size + 1, 0, none⟩), .string sA] w1 fun e w' => ∃ a' c', e = .returned (.tuple #[.slice a' bytes.length c', .int .i64 0]) ∧ Cutd w false ops bytes w' ∧ w'.ownsRow w1.heap.size 5 1 (.slice a' bytes.length c') bytes.length (cellsOf bytes) ∧ Keeps (fun _ => False) w1 w' := by
  obtain ⟨S, f, hd, hk, s1, s2, hf, b1, b2, b3⟩ := h
  refine (read_some w.heap.size (w.heap.size + 1) w.heap.size S sA f _ hd b2 (fun k hk => (b3 k hk).1) sA_named hf s1 (by rw [b1]; omega)).mono ?_
  rintro e w' ⟨a', c', he, r1, r2⟩
  subst b1
  have hsz := r2.size
  refine ⟨a', c', he, ⟨S, f, hd.kept' r2, hk.trans r2, s1, s2, hf, rfl, b2.kept (fun k hk => r2.block k (b3 k hk).1 id), fun k hk => ⟨by have := b3 k hk; omega, (b3 k hk).2⟩⟩, r1, r2⟩

theorem cutd_ops {w w1 : World} {ops : Nat} {bytes : List UInt8} {off : Bool} (h : Cutd w off ops bytes w1) :
    Calls Try.prog 13 #[.pointer (some ⟨w.heap.size + 1, 0, none⟩)] w1 fun e w' => e = .returned (.int .i64 ops) ∧ w1 = w' := by
  obtain ⟨S, f, hd, hk, s1, s2, hf, b1, b2, b3⟩ := h
  rw [← s2]
  exact ops_is _ _ _ _ _ _ _ hd.disk

end Go.Proofs.Ytigbodokmkpohaa
