/- New, Cut, On, Off, Ops, CutAt; bytes as a text. -/
import Derived.Test.YtigbodokmkpohaaN
namespace Go.Proofs.Ytigbodokmkpohaa
open Go.RowKit

theorem cellsOf_ints (l : List UInt8) : cellsOf l = (l.map fun c => (c.toNat : Int)).map (Value.int .u8) := by simp [cellsOf]

theorem run_string_of {P : Program} (src dst e : TypeId) (hs : P.underlying src = some (.slice e)) (he : P.underlying e = some (.int .u8)) (hd : P.underlying dst = some .string) (v : Value) (l : List UInt8) (w : World) (h : Bytes w v l) :
    (convert src dst v).run P w = .ok (.string ⟨l.toArray⟩) w := by
  rcases h with ⟨rfl, rfl⟩ | ⟨a, c, rfl, hc⟩
  · rw [run_convert_bytes_string w src dst e none 0 0 hs he hd]
    rfl
  · rw [run_convert_bytes_string w src dst e (some a) l.length c hs he hd]
    have h1 : (loadCells a l.length).run P w = .ok ((l.map fun c => (c.toNat : Int)).map (Value.int .u8)).toArray w := by
      have := run_firstCells_some (P := P) w 1 l.length a l.length c (cellsOf l) (by rw [length_cellsOf]; omega) hc
      rw [← cellsOf_ints]
      simpa [Builtin.firstCells] using this
    rw [run_bytesToString w a l.length c _ h1, foldl_push_bytes]
    congr 2
    simp
    congr 1
    rw [List.map_congr_left (g := id) (fun c _ => by simp)]
    simp

theorem new_disk (w : World) : Calls Try.prog 6 #[] w fun e w' => e = .returned (.pointer (some ⟨w.heap.size + 1, 0, none⟩)) ∧
    w' = (w.alloc (.map #[] 0)).alloc (.cells #[.map (some w.heap.size), .bool false, .int .i64 0, .int .i64 (-1), .int .i64 0] 49) := by
  have hmm := @run_makeMap Try.prog
  go_enter Try.func6, Try.ntmps6
  go_wp2
  go_ret
  exact ⟨rfl, rfl⟩

/-- The disk without files. -/
def DS.none : DS := { off := false, ops := 0, cutAt := -1, part := 0, n := 0, fs := fun _ => Option.none }

theorem new_is (w : World) (base : Nat) (hb : base ≤ w.heap.size) : Calls Try.prog 6 #[] w fun e w' => e = .returned (.pointer (some ⟨w.heap.size + 1, 0, none⟩)) ∧
    DiskIs w' base (w.heap.size + 1) w.heap.size DS.none ∧ Owned w' base DS.none ∧ Keeps (fun _ => False) w w' := by
  refine (new_disk w).mono ?_
  rintro e w' ⟨he, rfl⟩
  have hs1 : (w.alloc (.map #[] 0)).heap.size = w.heap.size + 1 := by simp
  refine ⟨he, ⟨?_, ?_, ?_, ?_, ?_, ?_⟩, ⟨?_, ?_⟩, (Keeps.alloc _ _ _).trans (Keeps.alloc _ _ _)⟩
  · rw [← hs1]; exact (MapKept.heap_alloc _ _).1
  · exact (HasMap.made w).kept (Below.heap_alloc _ _ _ (by omega))
  · intro s f hf; cases hf
  · intro s f hf; cases hf
  · exact ⟨by omega, hb, fun s f hf => by cases hf⟩
  · intro s t f g hf; cases hf
  · intro s f hf; cases hf
  · intro s t f g k hf; cases hf

theorem off_is (D : Nat) (x0 x2 x3 x4 : Value) (off : Bool) (w : World) (hD : w.heap[D]? = some (.cells #[x0, .bool off, x2, x3, x4] 49 (0, 0))) :
    Calls Try.prog 14 #[.pointer (some ⟨D, 0, none⟩)] w fun e w' => e = .returned (.bool off) ∧ w = w' := by
  have c1 : w.cell? ⟨D, 1, none⟩ = some (.bool off) := by simp [World.cell?, hD]
  clear hD
  go_enter Try.func14, Try.ntmps14
  go_wp2
  go_ret
  exact ⟨rfl, rfl⟩

theorem ops_is (D : Nat) (x0 x1 x3 x4 : Value) (ops : Int) (w : World) (hD : w.heap[D]? = some (.cells #[x0, x1, .int .i64 ops, x3, x4] 49 (0, 0))) :
    Calls Try.prog 13 #[.pointer (some ⟨D, 0, none⟩)] w fun e w' => e = .returned (.int .i64 ops) ∧ w = w' := by
  have c1 : w.cell? ⟨D, 2, none⟩ = some (.int .i64 ops) := by simp [World.cell?, hD]
  clear hD
  go_enter Try.func13, Try.ntmps13
  go_wp2
  go_ret
  exact ⟨rfl, rfl⟩

theorem on_is (D : Nat) (x0 x1 x2 x3 x4 : Value) (w : World) (hD : w.heap[D]? = some (.cells #[x0, x1, x2, x3, x4] 49 (0, 0))) :
    Calls Try.prog 18 #[.pointer (some ⟨D, 0, none⟩)] w fun e w' => e = .returned (.tuple #[]) ∧ w' = w.setCell ⟨D, 1, none⟩ (.bool false) := by
  have c1 : w.cell? ⟨D, 1, none⟩ = some x1 := by simp [World.cell?, hD]
  have f1 : w.frozen? ⟨D, 1, none⟩ = false := by simp [World.frozen?, hD]
  clear hD
  go_enter Try.func18, Try.ntmps18
  go_wp2
  go_end0
  exact ⟨rfl, rfl⟩

theorem cutAt_is (D : Nat) (x0 x1 x2 x3 x4 : Value) (op part : Int) (w : World) (hD : w.heap[D]? = some (.cells #[x0, x1, x2, x3, x4] 49 (0, 0))) :
    Calls Try.prog 12 #[.pointer (some ⟨D, 0, none⟩), .int .i64 op, .int .i64 part] w fun e w' => e = .returned (.tuple #[]) ∧ w' = (w.setCell ⟨D, 3, none⟩ (.int .i64 op)).setCell ⟨D, 4, none⟩ (.int .i64 part) := by
  have c3 : w.cell? ⟨D, 3, none⟩ = some x3 := by simp [World.cell?, hD]
  have c4 : w.cell? ⟨D, 4, none⟩ = some x4 := by simp [World.cell?, hD]
  have f3 : w.frozen? ⟨D, 3, none⟩ = false := by simp [World.frozen?, hD]
  have f4 : w.frozen? ⟨D, 4, none⟩ = false := by simp [World.frozen?, hD]
  clear hD
  go_enter Try.func12, Try.ntmps12
  go_wp2
  go_end0
  exact ⟨rfl, rfl⟩

theorem cut_is (base D M : Nat) (S : DS) (part : Int) (w : World) (hd : DiskIs w base D M S) (ho : Owned w base S) (hoff : S.off = false) (hp : -9223372036854775808 ≤ part ∧ part ≤ 9223372036854775807) (hl : ∀ s f, S.fs s = some f → f.bytes.length ≤ 140737488355328) :
    Calls Try.prog 17 #[.pointer (some ⟨D, 0, none⟩), .int .i64 part] w fun e w' => e = .returned (.tuple #[]) ∧ CutIs w base D M S part w' := by
  have hD := hd.disk
  rw [hoff] at hD
  have c1 : w.cell? ⟨D, 1, none⟩ = some (.bool false) := by simp [World.cell?, hD]
  clear hD hoff
  have HL := Lib.hid hl
  clear hl
  go_enter Try.func17, Try.ntmps17
  go_wp2_with (go_at_call 29; refine (cut_any base D M S part _ hd ho hp HL.out).mono ?_; rintro e w' ⟨rfl, hcut⟩; have HC := Lib.hid hcut; clear hcut)
  go_end0
  exact ⟨rfl, HC.out⟩

end Go.Proofs.Ytigbodokmkpohaa
