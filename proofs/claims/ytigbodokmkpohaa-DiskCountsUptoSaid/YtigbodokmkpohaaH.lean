/- Append to a new file; there is no room. -/
import Derived.Test.YtigbodokmkpohaaG
namespace Go.Proofs.Ytigbodokmkpohaa
open Go.RowKit

set_option maxHeartbeats 800000 in
theorem append_full (base D M : Nat) (S : DS) (s : ByteArray) (x : Value) (w : World) (hd : DiskIs w base D M S) (hs : Named s) (hf : S.fs s = none) (hoff : S.off = false) (hn : 1000 ≤ S.n) (hn2 : S.n ≤ 1000000) :
    Calls Try.prog 7 #[.pointer (some ⟨D, 0, none⟩), .string s, x] w fun e w' => e = .returned (.int .i64 1) ∧ Keeps (fun _ => False) w w' := by
  have hD := hd.disk
  rw [hoff] at hD
  have hDlt := hd.D_lt
  have hD0 : (w.alloc (.cells #[.string s] 9)).heap[D]? = some (.cells #[.map (some M), .bool false, .int .i64 S.ops, .int .i64 S.cutAt, .int .i64 S.part] 49 (0, 0)) := (Below.heap_alloc _ _ _ hDlt).trans hD
  have cM : (w.alloc (.cells #[.string s] 9)).cell? ⟨D, 0, none⟩ = some (.map (some M)) := by simp [World.cell?, hD0]
  have cN : (w.alloc (.cells #[.string s] 9)).cell? ⟨w.heap.size, 0, none⟩ = some (.string s) := by
    have hN0 := (MapKept.heap_alloc w (.cells #[.string s] 9)).1
    simp only [World.cell?, hN0]; rfl
  have hm1 : ∀ q, HasMap ((w.alloc (.cells #[.string s] 9)).drewN q) M S.n S.ptrs := fun q => hd.map.kept (by rw [heap_drewN]; exact Below.heap_alloc _ _ _ hd.map.lt)
  have hl : ∀ q, (Instr.lookup 47 (.map (some M)) (.string s) false).run Try.prog ((w.alloc (.cells #[.string s] 9)).drewN q) = .ok (.pointer none) ((w.alloc (.cells #[.string s] 9)).drewN q) := fun q => by
    have := (hm1 q).look (P := Try.prog) (t := 47) (k := 9) (e := 51) rfl rfl (zero51 _) s
    rw [show S.ptrs s = none by simp [DS.ptrs, hf]] at this
    exact this
  have hln : ∀ q ty, (Builtin.len_ #[47] ty #[.map (some M)]).run Try.prog ((w.alloc (.cells #[.string s] 9)).drewN q) = .ok (.int .i64 S.n) ((w.alloc (.cells #[.string s] 9)).drewN q) := fun q ty => (hm1 q).len rfl ty
  have HD0 := Lib.hid hD0
  have HS := Lib.hid hs
  have HN := Lib.hid cN
  have hge : decide ((1000 : Int) ≤ (S.n : Int)) = true := by simp; omega
  clear hD0 hD hs cN hf hm1
  go_enter Try.func7, Try.ntmps7
  go_wp2_with (first
    | (go_at_call 19; refine (refused_new D M _ _ _ w.heap.size 0 1 1 (fun _ => s) _ HD0.out (by omega) (fun _ _ => HS.out) (fun i hi => ?_)).mono ?_; (obtain rfl : i = 0 := by omega); exact HN.out; rintro e w' ⟨rfl, q, rfl⟩))
  go_ret
  exact ⟨rfl, (Keeps.alloc _ _ _).trans (Keeps.drewN _ _ _)⟩

set_option maxHeartbeats 800000 in
theorem append_new (base D M : Nat) (S : DS) (s : ByteArray) (x : Value) (l : List UInt8) (w : World) (hd : DiskIs w base D M S) (ho : Owned w base S) (hs : Named s) (hf : S.fs s = none)
    (hx : Bytes w x l) (hxl : ∀ k, x.ownBlock = some k → k < w.heap.size) (hxM : ∀ k, x.ownBlock = some k → k ≠ M) (hoff : S.off = false) (hn : S.n < 1000) (hops : S.ops ≤ 1000000) (hat : (S.ops : Int) ≠ S.cutAt) (hlen : l.length ≤ 140737488355328) (hbase : base ≤ w.heap.size) :
    Calls Try.prog 7 #[.pointer (some ⟨D, 0, none⟩), .string s, x] w fun e w' => e = .returned (.int .i64 0) ∧ AppNew w base D M S s l w' := by
  have hD := hd.disk
  rw [hoff] at hD
  have hDlt := hd.D_lt
  have hMlt := hd.map.lt
  have hMD := hd.M_ne_D
  obtain ⟨i0, hi, hz0, hz1, hz2⟩ := info_parts Try.info5
  have hD0 : (w.alloc (.cells #[.string s] 9)).heap[D]? = some (.cells #[.map (some M), .bool false, .int .i64 S.ops, .int .i64 S.cutAt, .int .i64 S.part] 49 (0, 0)) := (Below.heap_alloc _ _ _ hDlt).trans hD
  have cM : (w.alloc (.cells #[.string s] 9)).cell? ⟨D, 0, none⟩ = some (.map (some M)) := by simp [World.cell?, hD0]
  have cM2 : ((w.alloc (.cells #[.string s] 9)).alloc (.cells #[.slice none 0 0, .int .i64 0] 53)).cell? ⟨D, 0, none⟩ = some (.map (some M)) := by simp [World.cell?, Below.heap_alloc _ _ D (show D < (w.alloc (.cells #[.string s] 9)).heap.size by simp; omega), hD0]
  have cN : (w.alloc (.cells #[.string s] 9)).cell? ⟨w.heap.size, 0, none⟩ = some (.string s) := by
    have hN0 := (MapKept.heap_alloc w (.cells #[.string s] 9)).1
    simp only [World.cell?, hN0]; rfl
  have hm1 : ∀ q, HasMap ((w.alloc (.cells #[.string s] 9)).drewN q) M S.n S.ptrs := fun q => hd.map.kept (by rw [heap_drewN]; exact Below.heap_alloc _ _ _ hd.map.lt)
  have hm2 : ∀ q, HasMap (((w.alloc (.cells #[.string s] 9)).alloc (.cells #[.slice none 0 0, .int .i64 0] 53)).drewN q) M S.n S.ptrs := fun q => (hm1 q).kept (by rw [heap_drewN, heap_drewN]; exact Below.heap_alloc _ _ _ (by simp; omega))
  have hl : ∀ q, (Instr.lookup 47 (.map (some M)) (.string s) false).run Try.prog ((w.alloc (.cells #[.string s] 9)).drewN q) = .ok (.pointer none) ((w.alloc (.cells #[.string s] 9)).drewN q) := fun q => by
    have := (hm1 q).look (P := Try.prog) (t := 47) (k := 9) (e := 51) rfl rfl (zero51 _) s
    rw [show S.ptrs s = none by simp [DS.ptrs, hf]] at this
    exact this
  have hln : ∀ q ty, (Builtin.len_ #[47] ty #[.map (some M)]).run Try.prog ((w.alloc (.cells #[.string s] 9)).drewN q) = .ok (.int .i64 S.n) ((w.alloc (.cells #[.string s] 9)).drewN q) := fun q ty => (hm1 q).len rfl ty
  have hcall : ∀ W, (callFunc 21 #[]).run Try.prog W = .ok (.enter 21 #[]) W := fun W => by kernel_rfl
  have hsz1 : (w.alloc (.cells #[.string s] 9)).heap.size = w.heap.size + 1 := by simp
  have hb2 : ∀ w2 q, (((w.alloc (.cells #[.string s] 9)).alloc (.cells #[.slice none 0 0, .int .i64 0] 53)).drewN q).grownBy w2 (some M) → w2.heap[w.heap.size + 1]? = some (.cells #[.slice none 0 0, .int .i64 0] 53 (0, 0)) ∧
      Bytes w2 x l ∧ base ≤ w2.heap.size ∧ Keeps (fun b => b = M) w w2 := by
    intro w2 q hg
    have h1 : ((w.alloc (.cells #[.string s] 9)).alloc (.cells #[.slice none 0 0, .int .i64 0] 53)).heap[w.heap.size + 1]? = some (.cells #[.slice none 0 0, .int .i64 0] 53 (0, 0)) := by
      rw [← hsz1]; exact (MapKept.heap_alloc _ _).1
    have hz := hg.size
    simp at hz
    refine ⟨(hg.block _ (by simp) (by simp; omega)).trans (by rw [heap_drewN]; exact h1), hx.kept (fun k hk => ?_), by omega, ?_⟩
    · have := hxl k hk
      have hne := hxM k hk
      rw [hg.block k (by simp; omega) (by simp; omega), heap_drewN, Below.heap_alloc _ _ _ (by simp; omega), Below.heap_alloc _ _ _ this]
    · exact (((Keeps.alloc _ w _).trans (Keeps.alloc _ _ _)).trans (Keeps.drewN _ _ _)).trans (Keeps.grown hg (fun k e _ => by cases e; rfl))
  have hb3 : ∀ w2 w3 q, (((w.alloc (.cells #[.string s] 9)).alloc (.cells #[.slice none 0 0, .int .i64 0] 53)).drewN q).grownBy w2 (some M) → w2.grownBy w3 none → w3.heap[w.heap.size + 1]? = some (.cells #[.slice none 0 0, .int .i64 0] 53 (0, 0)) ∧
      (∀ v', (w3.setCell ⟨w.heap.size + 1, 0, none⟩ v').heap[D]? = some (.cells #[.map (some M), .bool false, .int .i64 S.ops, .int .i64 S.cutAt, .int .i64 S.part] 49 (0, 0))) ∧ Keeps (fun b => b = M) w w3 := by
    intro w2 w3 q hg hg3
    obtain ⟨r1, r2, r3, r4⟩ := hb2 w2 q hg
    have hlt : w.heap.size + 1 < w2.heap.size := (Array.getElem?_eq_some_iff.1 r1).1
    refine ⟨(hg3.block _ hlt (by simp)).trans r1, fun v' => ?_, r4.trans (Keeps.grown hg3 (fun k e _ => by cases e))⟩
    rw [Below.heap_setCell _ _ _ _ (show D ≠ w.heap.size + 1 by omega), hg3.block D (by omega) (by simp), r4.block D hDlt hMD.symm]
    exact hD
  have hfin : ∀ w2 w3 q a' c' w4, (((w.alloc (.cells #[.string s] 9)).alloc (.cells #[.slice none 0 0, .int .i64 0] 53)).drewN q).grownBy w2 (some M) → w2.grownBy w3 none →
      HasMap w2 M (if (S.ptrs s).isSome = true then S.n else S.n + 1) (upd S.ptrs s (some (.pointer (some ⟨w.heap.size + 1, 0, none⟩)))) → w3.ownsRow base 5 1 (.slice a' l.length c') l.length (cellsOf l) →
      ((Value.slice a' l.length c').ownBlock = none ∨ (Value.slice a' l.length c').ownBlock = some w2.heap.size) →
      (∃ q, w4 = ((w3.setCell ⟨w.heap.size + 1, 0, none⟩ (.slice a' l.length c')).setCell ⟨D, 2, none⟩ (.int .i64 (S.ops + 1))).drewN q) → AppNew w base D M S s l w4 := by
    intro w2 w3 q a' c' w4 hg hg3 hm hown hloc h4
    obtain ⟨r1, r2, r3, r4⟩ := hb2 w2 q hg
    obtain ⟨s1, s2, s3⟩ := hb3 w2 w3 q hg hg3
    have hpn : S.ptrs s = none := by simp [DS.ptrs, hf]
    rw [hpn] at hm
    have hm3 : HasMap w3 M (S.n + 1) (upd S.ptrs s (some (.pointer (some ⟨w.heap.size + 1, 0, none⟩)))) := HasMap.kept hm (hg3.block M hm.lt (by simp))
    have hloc' : ∀ k, (Value.slice a' l.length c').ownBlock = some k → w.heap.size ≤ k := by
      intro k hk
      have := r4.size
      rcases hloc with h | h
      · rw [h] at hk; cases hk
      · rw [h] at hk; cases hk; omega
    obtain ⟨t1, t2, t3⟩ := append_fin_new (blk := w.heap.size + 1) hd ho hf s3 (by omega) s1 hm3 hown hloc' hbase h4
    exact ⟨_, _, t1, t2, t3, by omega, hloc'⟩
  have HB2 := Lib.hid hb2
  have HB3 := Lib.hid hb3
  have HFIN := Lib.hid hfin
  have HD0 := Lib.hid hD0
  have HS := Lib.hid hs
  have HN := Lib.hid cN
  have HM2 := Lib.hid hm2
  have HAT := Lib.hid hat
  have HC := Lib.hid hcall
  have hge : decide ((1000 : Int) ≤ (S.n : Int)) = false := by simp; omega
  have HF := Lib.hid hf
  have HX := Lib.hid hx
  clear hb2 hb3 hfin hsz1 hD0 hD hs cN hf hm1 hm2 hat hcall hx
  go_enter Try.func7, Try.ntmps7
  go_wp2_with (first
    | (go_at_call 19; refine (refused_new D M _ _ _ w.heap.size 0 1 1 (fun _ => s) _ HD0.out (by omega) (fun _ _ => HS.out) (fun i hi => ?_)).mono ?_; (obtain rfl : i = 0 := by omega); exact HN.out; rintro e w' ⟨rfl, q, rfl⟩)
    | (at_mapUpdate; refine wpList_put _ rfl _ _ _ 47 rfl 9 51 Try.underlying47 Try.underlying9 M S.n S.ptrs rfl (HM2.out _) s (.pointer (some ⟨w.heap.size + 1, 0, none⟩)) rfl rfl ?_; intro w2 hm2 hg2 hs2; have HM := Lib.hid hm2; have HG := Lib.hid hg2; have hb2 := (HB2.out w2 _ HG.out).1; have c2 : w2.cell? ⟨w.heap.size + 1, 0, none⟩ = some (.slice none 0 0) := by simp [World.cell?, hb2]
       have HBY := Lib.hid (HB2.out w2 _ HG.out).2.1; have hbs2 := (HB2.out w2 _ HG.out).2.2.1; clear hm2 hg2 hs2 hb2)
    | (at_builtin; refine wpList_append_bytes_nil _ rfl _ _ 22 rfl base 5 i0 (.int .u8 0) Try.underlying22 hi hz0 hz1 hz2 rfl rfl _ l rfl HBY.out hlen hbs2 ?_; intro a' c' w3 hown3 hg3 hloc3; have HG3 := Lib.hid hg3; have HO := Lib.hid hown3; have HL := Lib.hid hloc3; have hb3 := (HB3.out w2 w3 _ HG.out HG3.out).1; have c3 : w3.cell? ⟨w.heap.size + 1, 0, none⟩ = some (.slice none 0 0) := by simp [World.cell?, hb3]
       have z3 : w3.frozen? ⟨w.heap.size + 1, 0, none⟩ = false := by simp [World.frozen?, hb3]
       clear hown3 hg3 hloc3 hb3 c2)
    | (go_at_call 20; refine (done_goes D _ _ _ S.ops S.cutAt 21 #[] (fun w4 => ∃ q, w4 = ((w3.setCell ⟨w.heap.size + 1, 0, none⟩ (.slice a' l.length c')).setCell ⟨D, 2, none⟩ (.int .i64 (S.ops + 1))).drewN q) _ ((HB3.out w2 w3 _ HG.out HG3.out).2.1 _) hops HAT.out HC.out (fun q => (append_nothing _).mono (fun e w' h => ⟨h.1, q, h.2.symm⟩))).mono ?_; rintro e w' ⟨rfl, hw4⟩; have H4 := Lib.hid hw4; clear hw4))
  go_ret
  exact ⟨rfl, HFIN.out _ _ _ _ _ _ HG.out HG3.out HM.out HO.out HL.out H4.out⟩

end Go.Proofs.Ytigbodokmkpohaa
