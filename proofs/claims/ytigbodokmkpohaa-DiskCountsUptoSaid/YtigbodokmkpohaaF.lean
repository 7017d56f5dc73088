/- Append, walked: the file is there. -/
import Derived.Test.YtigbodokmkpohaaE
namespace Go.Proofs.Ytigbodokmkpohaa
open Go.RowKit

/-- What Append to a file that is there comes to. -/
def AppOld (w : World) (base D M : Nat) (S : DS) (s : ByteArray) (f : DF) (l : List UInt8) (w' : World) : Prop :=
  ∃ v', DiskIs w' base D M (appended S s f v' l) ∧ Owned w' base (appended S s f v' l) ∧ Keeps (Foot D M S) w w' ∧ (v'.ownBlock = f.v.ownBlock ∨ ∃ k, v'.ownBlock = some k ∧ w.heap.size ≤ k)

theorem heap_drewN (w : World) (n b : Nat) : (w.drewN n).heap[b]? = w.heap[b]? := by simp

set_option maxHeartbeats 800000 in
theorem append_old (base D M : Nat) (S : DS) (s : ByteArray) (f : DF) (x : Value) (l : List UInt8) (w : World) (hd : DiskIs w base D M S) (ho : Owned w base S) (hs : Named s) (hf : S.fs s = some f)
    (hx : Bytes w x l) (hxl : ∀ k, x.ownBlock = some k → k < w.heap.size) (hoff : S.off = false) (hops : S.ops ≤ 1000000) (hat : (S.ops : Int) ≠ S.cutAt) (hlen : f.bytes.length + l.length ≤ 140737488355328) (hbase : base ≤ w.heap.size) :
    Calls Try.prog 7 #[.pointer (some ⟨D, 0, none⟩), .string s, x] w fun e w' => e = .returned (.int .i64 0) ∧ AppOld w base D M S s f l w' := by
  have hD := hd.disk
  rw [hoff] at hD
  have hDlt := hd.D_lt
  have hblt := hd.blk_lt hf
  have hrow := ho.row s f hf
  have hv : ∃ a0 c0, f.v = .slice a0 f.bytes.length c0 := by
    rcases hrow.2 with ⟨h, hn⟩ | ⟨g, cap, cur, h, _⟩
    · exact ⟨none, 0, by rw [h, hn]⟩
    · exact ⟨_, _, h⟩
  obtain ⟨a0, c0v, hv⟩ := hv
  obtain ⟨i0, hi, hz0, hz1, hz2⟩ := info_parts Try.info5
  -- the world behind the block of the names
  have hD0 : (w.alloc (.cells #[.string s] 9)).heap[D]? = some (.cells #[.map (some M), .bool false, .int .i64 S.ops, .int .i64 S.cutAt, .int .i64 S.part] 49 (0, 0)) := (Below.heap_alloc _ _ _ hDlt).trans hD
  have hf0 : (w.alloc (.cells #[.string s] 9)).heap[f.blk]? = some (.cells #[f.v, .int .i64 f.syn] 53 (0, 0)) := (Below.heap_alloc _ _ _ hblt).trans (hd.file s f hf)
  have cM : (w.alloc (.cells #[.string s] 9)).cell? ⟨D, 0, none⟩ = some (.map (some M)) := by simp [World.cell?, hD0]
  have cF : (w.alloc (.cells #[.string s] 9)).cell? ⟨f.blk, 0, none⟩ = some (.slice a0 f.bytes.length c0v) := by simp [World.cell?, hf0, hv]
  have cN : (w.alloc (.cells #[.string s] 9)).cell? ⟨w.heap.size, 0, none⟩ = some (.string s) := by
    have hN0 := (MapKept.heap_alloc w (.cells #[.string s] 9)).1
    simp only [World.cell?, hN0]; rfl
  have hl : ∀ q, (Instr.lookup 47 (.map (some M)) (.string s) false).run Try.prog ((w.alloc (.cells #[.string s] 9)).drewN q) = .ok (.pointer (some ⟨f.blk, 0, none⟩)) ((w.alloc (.cells #[.string s] 9)).drewN q) := fun q => by
    have hm1 : HasMap ((w.alloc (.cells #[.string s] 9)).drewN q) M S.n S.ptrs := hd.map.kept (by rw [heap_drewN]; exact Below.heap_alloc _ _ _ hd.map.lt)
    have := hm1.look (P := Try.prog) (t := 47) (k := 9) (e := 51) rfl rfl (zero51 _) s
    rw [show S.ptrs s = some f.ptr by simp [DS.ptrs, hf]] at this
    exact this
  have hcall : ∀ W, (callFunc 21 #[]).run Try.prog W = .ok (.enter 21 #[]) W := fun W => by kernel_rfl
  have HX : Hid (Bytes (w.alloc (.cells #[.string s] 9)) x l) := Lib.hid (hx.kept (fun k hk => Below.heap_alloc _ _ _ (hxl k hk)))
  have HD0 := Lib.hid hD0
  have HF0 := Lib.hid hf0
  have hrow0 : (w.alloc (.cells #[.string s] 9)).ownsRow base 5 1 (.slice a0 f.bytes.length c0v) f.bytes.length (cellsOf f.bytes) := by rw [← hv]; exact hrow.alloc _
  have hbs : base ≤ (w.alloc (.cells #[.string s] 9)).heap.size := Nat.le_trans hbase (by simp)
  have hb : ∀ w2, (w.alloc (.cells #[.string s] 9)).grownBy w2 (Value.slice a0 f.bytes.length c0v).ownBlock → w2.cell? ⟨f.blk, 0, none⟩ = some (.slice a0 f.bytes.length c0v) ∧ w2.frozen? ⟨f.blk, 0, none⟩ = false ∧
      (∀ v', (w2.setCell ⟨f.blk, 0, none⟩ v').heap[D]? = some (.cells #[.map (some M), .bool false, .int .i64 S.ops, .int .i64 S.cutAt, .int .i64 S.part] 49 (0, 0))) ∧ Keeps (fun b => f.v.ownBlock = some b) w w2 := by
    intro w2 hg
    rw [← hv] at hg
    have h1 := (hg.block f.blk (by simp; omega) (fun e => (hd.row_ne ho hf e.symm).2.2 s f hf rfl)).trans hf0
    have h2 := (hg.block D (by simp; omega) (fun e => (hd.row_ne ho hf e.symm).1 rfl)).trans hD0
    refine ⟨by simp [World.cell?, h1, hv], by simp [World.frozen?, h1], fun v' => ?_, ?_⟩
    · rw [Below.heap_setCell _ _ _ _ (hd.blk_ne_D hf).symm]; exact h2
    · exact (Keeps.alloc _ w _).trans (Keeps.grown hg (fun k e _ => e))
  have hfin : ∀ w2 a' c' w3, (w.alloc (.cells #[.string s] 9)).grownBy w2 (Value.slice a0 f.bytes.length c0v).ownBlock → w2.ownsRow base 5 1 (.slice a' (f.bytes.length + l.length) c') (f.bytes.length + l.length) (cellsOf f.bytes ++ cellsOf l) →
      ((Value.slice a' (f.bytes.length + l.length) c').ownBlock = (Value.slice a0 f.bytes.length c0v).ownBlock ∨ (Value.slice a' (f.bytes.length + l.length) c').ownBlock = some (w.alloc (.cells #[.string s] 9)).heap.size) →
      (∃ q, w3 = ((w2.setCell ⟨f.blk, 0, none⟩ (.slice a' (f.bytes.length + l.length) c')).setCell ⟨D, 2, none⟩ (.int .i64 (S.ops + 1))).drewN q) → AppOld w base D M S s f l w3 := by
    intro w2 a' c' w3 hg hown hloc h3
    have hloc' : (Value.slice a' (f.bytes.length + l.length) c').ownBlock = f.v.ownBlock ∨ ∃ k, (Value.slice a' (f.bytes.length + l.length) c').ownBlock = some k ∧ w.heap.size ≤ k := by
      rw [hv]
      exact hloc.imp id (fun h => ⟨_, h, by simp⟩)
    obtain ⟨r1, r2, r3⟩ := append_fin hd ho hf (hb w2 hg).2.2.2 hown hloc' h3
    exact ⟨_, r1, r2, r3, hloc'⟩
  have HB := Lib.hid hb
  have HFIN := Lib.hid hfin
  have HR := Lib.hid hrow0
  have HV := Lib.hid hv
  have HS := Lib.hid hs
  have HAT := Lib.hid hat
  have HN := Lib.hid cN
  have HC := Lib.hid hcall
  have HFF := Lib.hid hf
  clear hb hfin hD0 hf0 hrow hrow0 hv hD hs hat cN hx hcall hf
  go_enter Try.func7, Try.ntmps7
  go_wp2_with (first
    | (go_at_call 19; refine (refused_new D M _ _ _ w.heap.size 0 1 1 (fun _ => s) _ HD0.out (by omega) (fun _ _ => HS.out) (fun i hi => ?_)).mono ?_; (obtain rfl : i = 0 := by omega); exact HN.out; rintro e w' ⟨rfl, q, rfl⟩)
    | (at_builtin; refine wpList_append_bytes _ rfl _ _ 22 rfl base 5 i0 (.int .u8 0) Try.underlying22 hi hz0 hz1 hz2 rfl _ f.bytes.length (cellsOf f.bytes) rfl HR.out _ l rfl HX.out (by omega) hbs ?_; intro a' c' w2 hown2 hgrow2 hloc2; have hG := Lib.hid (p := (w.alloc (.cells #[.string s] 9)).grownBy w2 (Value.slice a0 f.bytes.length c0v).ownBlock) ⟨hgrow2.os, hgrow2.tape, hgrow2.output, hgrow2.size, hgrow2.block⟩; have c2 := (HB.out _ hG.out).1; have z2 := (HB.out _ hG.out).2.1; have HO := Lib.hid hown2; have HL := Lib.hid hloc2; clear hown2 hgrow2 hloc2)
    | (go_at_call 20; refine (done_goes D _ _ _ S.ops S.cutAt 21 #[] (fun w3 => ∃ q, w3 = ((w2.setCell ⟨f.blk, 0, none⟩ (.slice a' (f.bytes.length + l.length) c')).setCell ⟨D, 2, none⟩ (.int .i64 (S.ops + 1))).drewN q) _ ((HB.out _ hG.out).2.2.1 _) hops HAT.out HC.out (fun q => (append_nothing _).mono (fun e w' h => ⟨h.1, q, h.2.symm⟩))).mono ?_; rintro e w' ⟨rfl, hw3⟩; have H3 := Lib.hid hw3; clear hw3))
  go_ret
  exact ⟨rfl, HFIN.out _ _ _ _ hG.out HO.out HL.out H3.out⟩

end Go.Proofs.Ytigbodokmkpohaa
