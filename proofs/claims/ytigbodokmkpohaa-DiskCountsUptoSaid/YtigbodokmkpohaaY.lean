/- The same calls where the power goes off at them. -/
import Derived.Test.YtigbodokmkpohaaX
namespace Go.Proofs.Ytigbodokmkpohaa
open Go.RowKit

theorem Bytes.kept0 {w w' : World} {x : Value} {l : List UInt8} (h : Bytes w x l) (hk : l ≠ [] → ∀ k, x.ownBlock = some k → w'.heap[k]? = w.heap[k]?) : Bytes w' x l := by
  by_cases hn : l = []
  · subst hn
    rcases h with h | ⟨a, c, rfl, h⟩
    · exact .inl h
    · exact .inr ⟨a, c, rfl, fun j u hu => by simp [cellsOf] at hu⟩
  · exact h.kept (hk hn)

set_option maxHeartbeats 800000 in
theorem append_old0 (base D M : Nat) (S : DS) (s : ByteArray) (f : DF) (x : Value) (l : List UInt8) (w : World) (hd : DiskIs w base D M S) (ho : Owned w base S) (hs : Named s) (hf : S.fs s = some f)
    (hx : Bytes w x l) (hxl : l ≠ [] → ∀ k, x.ownBlock = some k → k < w.heap.size) (hoff : S.off = false) (hops : S.ops ≤ 1000000) (hat : (S.ops : Int) ≠ S.cutAt) (hlen : f.bytes.length + l.length ≤ 140737488355328) (hbase : base ≤ w.heap.size) :
    Calls Try.prog 7 #[.pointer (some ⟨D, 0, none⟩), .string s, x] w fun e w' => e = .returned (.int .i64 0) ∧ AppOld w base D M S s f l w' := by
  have hD := hd.disk
  rw [hoff] at hD
  have hDlt := hd.D_lt
  have hblt := hd.blk_lt hf
  have hrow := ho.row s f hf
  have hv : ∃ a0 c0, f.v = .slice a0 f.bytes.length c0 := by
    rcases hrow.2 with ⟨h, hn⟩ | ⟨g, cap, cur, h, _⟩
    · exact ⟨none, 0, by rw [h, hn]⟩
    · exact ⟨_, _, h⟩
  obtain ⟨a0, c0v, hv⟩ := hv
  obtain ⟨i0, hi, hz0, hz1, hz2⟩ := info_parts Try.info5
  -- the world behind the block of the names
  have hD0 : (w.alloc (.cells #[.string s] 9)).heap[D]? = some (.cells #[.map (some M), .bool false, .int .i64 S.ops, .int .i64 S.cutAt, .int .i64 S.part] 49 (0, 0)) := (Below.heap_alloc _ _ _ hDlt).trans hD
  have hf0 : (w.alloc (.cells #[.string s] 9)).heap[f.blk]? = some (.cells #[f.v, .int .i64 f.syn] 53 (0, 0)) := (Below.heap_alloc _ _ _ hblt).trans (hd.file s f hf)
  have cM : (w.alloc (.cells #[.string s] 9)).cell? ⟨D, 0, none⟩ = some (.map (some M)) := by simp [World.cell?, hD0]
  have cF : (w.alloc (.cells #[.string s] 9)).cell? ⟨f.blk, 0, none⟩ = some (.slice a0 f.bytes.length c0v) := by simp [World.cell?, hf0, hv]
  have cN : (w.alloc (.cells #[.string s] 9)).cell? ⟨w.heap.size, 0, none⟩ = some (.string s) := by
    have hN0 := (MapKept.heap_alloc w (.cells #[.string s] 9)).1
    simp only [World.cell?, hN0]; rfl
  have hl : ∀ q, (Instr.lookup 47 (.map (some M)) (.string s) false).run Try.prog ((w.alloc (.cells #[.string s] 9)).drewN q) = .ok (.pointer (some ⟨f.blk, 0, none⟩)) ((w.alloc (.cells #[.string s] 9)).drewN q) := fun q => by
    have hm1 : HasMap ((w.alloc (.cells #[.string s] 9)).drewN q) M S.n S.ptrs := hd.map.kept (by rw [heap_drewN]; exact Below.heap_alloc _ _ _ hd.map.lt)
    have := hm1.look (P := Try.prog) (t := 47) (k := 9) (e := 51) rfl rfl (zero51 _) s
    rw [show S.ptrs s = some f.ptr by simp [DS.ptrs, hf]] at this
    exact this
  have hcall : ∀ W, (callFunc 21 #[]).run Try.prog W = .ok (.enter 21 #[]) W := fun W => by kernel_rfl
  have HX : Hid (Bytes (w.alloc (.cells #[.string s] 9)) x l) := Lib.hid (hx.kept0 (fun hn k hk => Below.heap_alloc _ _ _ (hxl hn k hk)))
  have HD0 := Lib.hid hD0
  have HF0 := Lib.hid hf0
  have hrow0 : (w.alloc (.cells #[.string s] 9)).ownsRow base 5 1 (.slice a0 f.bytes.length c0v) f.bytes.length (cellsOf f.bytes) := by rw [← hv]; exact hrow.alloc _
  have hbs : base ≤ (w.alloc (.cells #[.string s] 9)).heap.size := Nat.le_trans hbase (by simp)
  have hb : ∀ w2, (w.alloc (.cells #[.string s] 9)).grownBy w2 (Value.slice a0 f.bytes.length c0v).ownBlock → w2.cell? ⟨f.blk, 0, none⟩ = some (.slice a0 f.bytes.length c0v) ∧ w2.frozen? ⟨f.blk, 0, none⟩ = false ∧
      (∀ v', (w2.setCell ⟨f.blk, 0, none⟩ v').heap[D]? = some (.cells #[.map (some M), .bool false, .int .i64 S.ops, .int .i64 S.cutAt, .int .i64 S.part] 49 (0, 0))) ∧ Keeps (fun b => f.v.ownBlock = some b) w w2 := by
    intro w2 hg
    rw [← hv] at hg
    have h1 := (hg.block f.blk (by simp; omega) (fun e => (hd.row_ne ho hf e.symm).2.2 s f hf rfl)).trans hf0
    have h2 := (hg.block D (by simp; omega) (fun e => (hd.row_ne ho hf e.symm).1 rfl)).trans hD0
    refine ⟨by simp [World.cell?, h1, hv], by simp [World.frozen?, h1], fun v' => ?_, ?_⟩
    · rw [Below.heap_setCell _ _ _ _ (hd.blk_ne_D hf).symm]; exact h2
    · exact (Keeps.alloc _ w _).trans (Keeps.grown hg (fun k e _ => e))
  have hfin : ∀ w2 a' c' w3, (w.alloc (.cells #[.string s] 9)).grownBy w2 (Value.slice a0 f.bytes.length c0v).ownBlock → w2.ownsRow base 5 1 (.slice a' (f.bytes.length + l.length) c') (f.bytes.length + l.length) (cellsOf f.bytes ++ cellsOf l) →
      ((Value.slice a' (f.bytes.length + l.length) c').ownBlock = (Value.slice a0 f.bytes.length c0v).ownBlock ∨ (Value.slice a' (f.bytes.length + l.length) c').ownBlock = some (w.alloc (.cells #[.string s] 9)).heap.size) →
      (∃ q, w3 = ((w2.setCell ⟨f.blk, 0, none⟩ (.slice a' (f.bytes.length + l.length) c')).setCell ⟨D, 2, none⟩ (.int .i64 (S.ops + 1))).drewN q) → AppOld w base D M S s f l w3 := by
    intro w2 a' c' w3 hg hown hloc h3
    have hloc' : (Value.slice a' (f.bytes.length + l.length) c').ownBlock = f.v.ownBlock ∨ ∃ k, (Value.slice a' (f.bytes.length + l.length) c').ownBlock = some k ∧ w.heap.size ≤ k := by
      rw [hv]
      exact hloc.imp id (fun h => ⟨_, h, by simp⟩)
    obtain ⟨r1, r2, r3⟩ := append_fin hd ho hf (hb w2 hg).2.2.2 hown hloc' h3
    exact ⟨_, r1, r2, r3, hloc'⟩
  have HB := Lib.hid hb
  have HFIN := Lib.hid hfin
  have HR := Lib.hid hrow0
  have HV := Lib.hid hv
  have HS := Lib.hid hs
  have HAT := Lib.hid hat
  have HN := Lib.hid cN
  have HC := Lib.hid hcall
  have HFF := Lib.hid hf
  clear hb hfin hD0 hf0 hrow hrow0 hv hD hs hat cN hx hcall hf
  go_enter Try.func7, Try.ntmps7
  go_wp2_with (first
    | (go_at_call 19; refine (refused_new D M _ _ _ w.heap.size 0 1 1 (fun _ => s) _ HD0.out (by omega) (fun _ _ => HS.out) (fun i hi => ?_)).mono ?_; (obtain rfl : i = 0 := by omega); exact HN.out; rintro e w' ⟨rfl, q, rfl⟩)
    | (at_builtin; refine wpList_append_bytes _ rfl _ _ 22 rfl base 5 i0 (.int .u8 0) Try.underlying22 hi hz0 hz1 hz2 rfl _ f.bytes.length (cellsOf f.bytes) rfl HR.out _ l rfl HX.out (by omega) hbs ?_; intro a' c' w2 hown2 hgrow2 hloc2; have hG := Lib.hid (p := (w.alloc (.cells #[.string s] 9)).grownBy w2 (Value.slice a0 f.bytes.length c0v).ownBlock) ⟨hgrow2.os, hgrow2.tape, hgrow2.output, hgrow2.size, hgrow2.block⟩; have c2 := (HB.out _ hG.out).1; have z2 := (HB.out _ hG.out).2.1; have HO := Lib.hid hown2; have HL := Lib.hid hloc2; clear hown2 hgrow2 hloc2)
    | (go_at_call 20; refine (done_goes D _ _ _ S.ops S.cutAt 21 #[] (fun w3 => ∃ q, w3 = ((w2.setCell ⟨f.blk, 0, none⟩ (.slice a' (f.bytes.length + l.length) c')).setCell ⟨D, 2, none⟩ (.int .i64 (S.ops + 1))).drewN q) _ ((HB.out _ hG.out).2.2.1 _) hops HAT.out HC.out (fun q => (append_nothing _).mono (fun e w' h => ⟨h.1, q, h.2.symm⟩))).mono ?_; rintro e w' ⟨rfl, hw3⟩; have H3 := Lib.hid hw3; clear hw3))
  go_ret
  exact ⟨rfl, HFIN.out _ _ _ _ hG.out HO.out HL.out H3.out⟩

set_option maxHeartbeats 800000 in
theorem append_new0 (base D M : Nat) (S : DS) (s : ByteArray) (x : Value) (l : List UInt8) (w : World) (hd : DiskIs w base D M S) (ho : Owned w base S) (hs : Named s) (hf : S.fs s = none)
    (hx : Bytes w x l) (hxl : l ≠ [] → ∀ k, x.ownBlock = some k → k < w.heap.size) (hxM : l ≠ [] → ∀ k, x.ownBlock = some k → k ≠ M) (hoff : S.off = false) (hn : S.n < 1000) (hops : S.ops ≤ 1000000) (hat : (S.ops : Int) ≠ S.cutAt) (hlen : l.length ≤ 140737488355328) (hbase : base ≤ w.heap.size) :
    Calls Try.prog 7 #[.pointer (some ⟨D, 0, none⟩), .string s, x] w fun e w' => e = .returned (.int .i64 0) ∧ AppNew w base D M S s l w' := by
  have hD := hd.disk
  rw [hoff] at hD
  have hDlt := hd.D_lt
  have hMlt := hd.map.lt
  have hMD := hd.M_ne_D
  obtain ⟨i0, hi, hz0, hz1, hz2⟩ := info_parts Try.info5
  have hD0 : (w.alloc (.cells #[.string s] 9)).heap[D]? = some (.cells #[.map (some M), .bool false, .int .i64 S.ops, .int .i64 S.cutAt, .int .i64 S.part] 49 (0, 0)) := (Below.heap_alloc _ _ _ hDlt).trans hD
  have cM : (w.alloc (.cells #[.string s] 9)).cell? ⟨D, 0, none⟩ = some (.map (some M)) := by simp [World.cell?, hD0]
  have cM2 : ((w.alloc (.cells #[.string s] 9)).alloc (.cells #[.slice none 0 0, .int .i64 0] 53)).cell? ⟨D, 0, none⟩ = some (.map (some M)) := by simp [World.cell?, Below.heap_alloc _ _ D (show D < (w.alloc (.cells #[.string s] 9)).heap.size by simp; omega), hD0]
  have cN : (w.alloc (.cells #[.string s] 9)).cell? ⟨w.heap.size, 0, none⟩ = some (.string s) := by
    have hN0 := (MapKept.heap_alloc w (.cells #[.string s] 9)).1
    simp only [World.cell?, hN0]; rfl
  have hm1 : ∀ q, HasMap ((w.alloc (.cells #[.string s] 9)).drewN q) M S.n S.ptrs := fun q => hd.map.kept (by rw [heap_drewN]; exact Below.heap_alloc _ _ _ hd.map.lt)
  have hm2 : ∀ q, HasMap (((w.alloc (.cells #[.string s] 9)).alloc (.cells #[.slice none 0 0, .int .i64 0] 53)).drewN q) M S.n S.ptrs := fun q => (hm1 q).kept (by rw [heap_drewN, heap_drewN]; exact Below.heap_alloc _ _ _ (by simp; omega))
  have hl : ∀ q, (Instr.lookup 47 (.map (some M)) (.string s) false).run Try.prog ((w.alloc (.cells #[.string s] 9)).drewN q) = .ok (.pointer none) ((w.alloc (.cells #[.string s] 9)).drewN q) := fun q => by
    have := (hm1 q).look (P := Try.prog) (t := 47) (k := 9) (e := 51) rfl rfl (zero51 _) s
    rw [show S.ptrs s = none by simp [DS.ptrs, hf]] at this
    exact this
  have hln : ∀ q ty, (Builtin.len_ #[47] ty #[.map (some M)]).run Try.prog ((w.alloc (.cells #[.string s] 9)).drewN q) = .ok (.int .i64 S.n) ((w.alloc (.cells #[.string s] 9)).drewN q) := fun q ty => (hm1 q).len rfl ty
  have hcall : ∀ W, (callFunc 21 #[]).run Try.prog W = .ok (.enter 21 #[]) W := fun W => by kernel_rfl
  have hsz1 : (w.alloc (.cells #[.string s] 9)).heap.size = w.heap.size + 1 := by simp
  have hb2 : ∀ w2 q, (((w.alloc (.cells #[.string s] 9)).alloc (.cells #[.slice none 0 0, .int .i64 0] 53)).drewN q).grownBy w2 (some M) → w2.heap[w.heap.size + 1]? = some (.cells #[.slice none 0 0, .int .i64 0] 53 (0, 0)) ∧
      Bytes w2 x l ∧ base ≤ w2.heap.size ∧ Keeps (fun b => b = M) w w2 := by
    intro w2 q hg
    have h1 : ((w.alloc (.cells #[.string s] 9)).alloc (.cells #[.slice none 0 0, .int .i64 0] 53)).heap[w.heap.size + 1]? = some (.cells #[.slice none 0 0, .int .i64 0] 53 (0, 0)) := by
      rw [← hsz1]; exact (MapKept.heap_alloc _ _).1
    have hz := hg.size
    simp at hz
    refine ⟨(hg.block _ (by simp) (by simp; omega)).trans (by rw [heap_drewN]; exact h1), hx.kept0 (fun hn k hk => ?_), by omega, ?_⟩
    · have := hxl hn k hk
      have hne := hxM hn k hk
      rw [hg.block k (by simp; omega) (by simp; omega), heap_drewN, Below.heap_alloc _ _ _ (by simp; omega), Below.heap_alloc _ _ _ this]
    · exact (((Keeps.alloc _ w _).trans (Keeps.alloc _ _ _)).trans (Keeps.drewN _ _ _)).trans (Keeps.grown hg (fun k e _ => by cases e; rfl))
  have hb3 : ∀ w2 w3 q, (((w.alloc (.cells #[.string s] 9)).alloc (.cells #[.slice none 0 0, .int .i64 0] 53)).drewN q).grownBy w2 (some M) → w2.grownBy w3 none → w3.heap[w.heap.size + 1]? = some (.cells #[.slice none 0 0, .int .i64 0] 53 (0, 0)) ∧
      (∀ v', (w3.setCell ⟨w.heap.size + 1, 0, none⟩ v').heap[D]? = some (.cells #[.map (some M), .bool false, .int .i64 S.ops, .int .i64 S.cutAt, .int .i64 S.part] 49 (0, 0))) ∧ Keeps (fun b => b = M) w w3 := by
    intro w2 w3 q hg hg3
    obtain ⟨r1, r2, r3, r4⟩ := hb2 w2 q hg
    have hlt : w.heap.size + 1 < w2.heap.size := (Array.getElem?_eq_some_iff.1 r1).1
    refine ⟨(hg3.block _ hlt (by simp)).trans r1, fun v' => ?_, r4.trans (Keeps.grown hg3 (fun k e _ => by cases e))⟩
    rw [Below.heap_setCell _ _ _ _ (show D ≠ w.heap.size + 1 by omega), hg3.block D (by omega) (by simp), r4.block D hDlt hMD.symm]
    exact hD
  have hfin : ∀ w2 w3 q a' c' w4, (((w.alloc (.cells #[.string s] 9)).alloc (.cells #[.slice none 0 0, .int .i64 0] 53)).drewN q).grownBy w2 (some M) → w2.grownBy w3 none →
      HasMap w2 M (if (S.ptrs s).isSome = true then S.n else S.n + 1) (upd S.ptrs s (some (.pointer (some ⟨w.heap.size + 1, 0, none⟩)))) → w3.ownsRow base 5 1 (.slice a' l.length c') l.length (cellsOf l) →
      ((Value.slice a' l.length c').ownBlock = none ∨ (Value.slice a' l.length c').ownBlock = some w2.heap.size) →
      (∃ q, w4 = ((w3.setCell ⟨w.heap.size + 1, 0, none⟩ (.slice a' l.length c')).setCell ⟨D, 2, none⟩ (.int .i64 (S.ops + 1))).drewN q) → AppNew w base D M S s l w4 := by
    intro w2 w3 q a' c' w4 hg hg3 hm hown hloc h4
    obtain ⟨r1, r2, r3, r4⟩ := hb2 w2 q hg
    obtain ⟨s1, s2, s3⟩ := hb3 w2 w3 q hg hg3
    have hpn : S.ptrs s = none := by simp [DS.ptrs, hf]
    rw [hpn] at hm
    have hm3 : HasMap w3 M (S.n + 1) (upd S.ptrs s (some (.pointer (some ⟨w.heap.size + 1, 0, none⟩)))) := HasMap.kept hm (hg3.block M hm.lt (by simp))
    have hloc' : ∀ k, (Value.slice a' l.length c').ownBlock = some k → w.heap.size ≤ k := by
      intro k hk
      have := r4.size
      rcases hloc with h | h
      · rw [h] at hk; cases hk
      · rw [h] at hk; cases hk; omega
    obtain ⟨t1, t2, t3⟩ := append_fin_new (blk := w.heap.size + 1) hd ho hf s3 (by omega) s1 hm3 hown hloc' hbase h4
    exact ⟨_, _, t1, t2, t3, by omega, hloc'⟩
  have HB2 := Lib.hid hb2
  have HB3 := Lib.hid hb3
  have HFIN := Lib.hid hfin
  have HD0 := Lib.hid hD0
  have HS := Lib.hid hs
  have HN := Lib.hid cN
  have HM2 := Lib.hid hm2
  have HAT := Lib.hid hat
  have HC := Lib.hid hcall
  have hge : decide ((1000 : Int) ≤ (S.n : Int)) = false := by simp; omega
  have HF := Lib.hid hf
  have HX := Lib.hid hx
  clear hb2 hb3 hfin hsz1 hD0 hD hs cN hf hm1 hm2 hat hcall hx
  go_enter Try.func7, Try.ntmps7
  go_wp2_with (first
    | (go_at_call 19; refine (refused_new D M _ _ _ w.heap.size 0 1 1 (fun _ => s) _ HD0.out (by omega) (fun _ _ => HS.out) (fun i hi => ?_)).mono ?_; (obtain rfl : i = 0 := by omega); exact HN.out; rintro e w' ⟨rfl, q, rfl⟩)
    | (at_mapUpdate; refine wpList_put _ rfl _ _ _ 47 rfl 9 51 Try.underlying47 Try.underlying9 M S.n S.ptrs rfl (HM2.out _) s (.pointer (some ⟨w.heap.size + 1, 0, none⟩)) rfl rfl ?_; intro w2 hm2 hg2 hs2; have HM := Lib.hid hm2; have HG := Lib.hid hg2; have hb2 := (HB2.out w2 _ HG.out).1; have c2 : w2.cell? ⟨w.heap.size + 1, 0, none⟩ = some (.slice none 0 0) := by simp [World.cell?, hb2]
       have HBY := Lib.hid (HB2.out w2 _ HG.out).2.1; have hbs2 := (HB2.out w2 _ HG.out).2.2.1; clear hm2 hg2 hs2 hb2)
    | (at_builtin; refine wpList_append_bytes_nil _ rfl _ _ 22 rfl base 5 i0 (.int .u8 0) Try.underlying22 hi hz0 hz1 hz2 rfl rfl _ l rfl HBY.out hlen hbs2 ?_; intro a' c' w3 hown3 hg3 hloc3; have HG3 := Lib.hid hg3; have HO := Lib.hid hown3; have HL := Lib.hid hloc3; have hb3 := (HB3.out w2 w3 _ HG.out HG3.out).1; have c3 : w3.cell? ⟨w.heap.size + 1, 0, none⟩ = some (.slice none 0 0) := by simp [World.cell?, hb3]
       have z3 : w3.frozen? ⟨w.heap.size + 1, 0, none⟩ = false := by simp [World.frozen?, hb3]
       clear hown3 hg3 hloc3 hb3 c2)
    | (go_at_call 20; refine (done_goes D _ _ _ S.ops S.cutAt 21 #[] (fun w4 => ∃ q, w4 = ((w3.setCell ⟨w.heap.size + 1, 0, none⟩ (.slice a' l.length c')).setCell ⟨D, 2, none⟩ (.int .i64 (S.ops + 1))).drewN q) _ ((HB3.out w2 w3 _ HG.out HG3.out).2.1 _) hops HAT.out HC.out (fun q => (append_nothing _).mono (fun e w' h => ⟨h.1, q, h.2.symm⟩))).mono ?_; rintro e w' ⟨rfl, hw4⟩; have H4 := Lib.hid hw4; clear hw4))
  go_ret
  exact ⟨rfl, HFIN.out _ _ _ _ _ _ HG.out HG3.out HM.out HO.out HL.out H4.out⟩

theorem appended_len {S : DS} {s : ByteArray} {f : DF} {v' : Value} {l : List UInt8} (hf : S.fs s = some f) (h : ∀ s f, S.fs s = some f → f.bytes.length ≤ 140737488355328) (hl : f.bytes.length + l.length ≤ 140737488355328) : ∀ t g, (appended S s f v' l).fs t = some g → g.bytes.length ≤ 140737488355328 := by
  intro t g hg
  simp only [appended, upd] at hg
  by_cases hts : t = s
  · rw [if_pos hts] at hg; cases hg; simpa using hl
  · rw [if_neg hts] at hg; exact h t g hg

theorem appendedNew_len {S : DS} {s : ByteArray} {blk : Nat} {v' : Value} {l : List UInt8} (h : ∀ s f, S.fs s = some f → f.bytes.length ≤ 140737488355328) (hl : l.length ≤ 140737488355328) : ∀ t g, (appendedNew S s blk v' l).fs t = some g → g.bytes.length ≤ 140737488355328 := by
  intro t g hg
  simp only [appendedNew, upd] at hg
  by_cases hts : t = s
  · rw [if_pos hts] at hg; cases hg; exact hl
  · rw [if_neg hts] at hg; exact h t g hg

set_option maxHeartbeats 800000 in
theorem append_old_cut (base D M : Nat) (S : DS) (s : ByteArray) (f : DF) (x : Value) (l : List UInt8) (w : World) (hd : DiskIs w base D M S) (ho : Owned w base S) (hs : Named s) (hf : S.fs s = some f)
    (hx : Bytes w x l) (hxl : l ≠ [] → ∀ k, x.ownBlock = some k → k < w.heap.size) (hoff : S.off = false) (hops : S.ops ≤ 1000000) (hat : S.cutAt = S.ops) (hp : -9223372036854775808 ≤ S.part ∧ S.part ≤ 9223372036854775807) (hl0 : ∀ s f, S.fs s = some f → f.bytes.length ≤ 140737488355328) (hlen : f.bytes.length + l.length ≤ 140737488355328) (hbase : base ≤ w.heap.size) :
    Calls Try.prog 7 #[.pointer (some ⟨D, 0, none⟩), .string s, x] w fun e w' => e = .returned (.int .i64 122) ∧ Dead w D M S w' := by
  have hD := hd.disk
  rw [hoff, hat] at hD
  have hDlt := hd.D_lt
  have hblt := hd.blk_lt hf
  have hrow := ho.row s f hf
  have hv : ∃ a0 c0, f.v = .slice a0 f.bytes.length c0 := by
    rcases hrow.2 with ⟨h, hn⟩ | ⟨g, cap, cur, h, _⟩
    · exact ⟨none, 0, by rw [h, hn]⟩
    · exact ⟨_, _, h⟩
  obtain ⟨a0, c0v, hv⟩ := hv
  obtain ⟨i0, hi, hz0, hz1, hz2⟩ := info_parts Try.info5
  -- the world behind the block of the names
  have hD0 : (w.alloc (.cells #[.string s] 9)).heap[D]? = some (.cells #[.map (some M), .bool false, .int .i64 S.ops, .int .i64 S.ops, .int .i64 S.part] 49 (0, 0)) := (Below.heap_alloc _ _ _ hDlt).trans hD
  have hf0 : (w.alloc (.cells #[.string s] 9)).heap[f.blk]? = some (.cells #[f.v, .int .i64 f.syn] 53 (0, 0)) := (Below.heap_alloc _ _ _ hblt).trans (hd.file s f hf)
  have cM : (w.alloc (.cells #[.string s] 9)).cell? ⟨D, 0, none⟩ = some (.map (some M)) := by simp [World.cell?, hD0]
  have cF : (w.alloc (.cells #[.string s] 9)).cell? ⟨f.blk, 0, none⟩ = some (.slice a0 f.bytes.length c0v) := by simp [World.cell?, hf0, hv]
  have cN : (w.alloc (.cells #[.string s] 9)).cell? ⟨w.heap.size, 0, none⟩ = some (.string s) := by
    have hN0 := (MapKept.heap_alloc w (.cells #[.string s] 9)).1
    simp only [World.cell?, hN0]; rfl
  have hl : ∀ q, (Instr.lookup 47 (.map (some M)) (.string s) false).run Try.prog ((w.alloc (.cells #[.string s] 9)).drewN q) = .ok (.pointer (some ⟨f.blk, 0, none⟩)) ((w.alloc (.cells #[.string s] 9)).drewN q) := fun q => by
    have hm1 : HasMap ((w.alloc (.cells #[.string s] 9)).drewN q) M S.n S.ptrs := hd.map.kept (by rw [heap_drewN]; exact Below.heap_alloc _ _ _ hd.map.lt)
    have := hm1.look (P := Try.prog) (t := 47) (k := 9) (e := 51) rfl rfl (zero51 _) s
    rw [show S.ptrs s = some f.ptr by simp [DS.ptrs, hf]] at this
    exact this
  have hcall : ∀ W, (callFunc 21 #[]).run Try.prog W = .ok (.enter 21 #[]) W := fun W => by kernel_rfl
  have HX : Hid (Bytes (w.alloc (.cells #[.string s] 9)) x l) := Lib.hid (hx.kept0 (fun hn k hk => Below.heap_alloc _ _ _ (hxl hn k hk)))
  have HD0 := Lib.hid hD0
  have HF0 := Lib.hid hf0
  have hrow0 : (w.alloc (.cells #[.string s] 9)).ownsRow base 5 1 (.slice a0 f.bytes.length c0v) f.bytes.length (cellsOf f.bytes) := by rw [← hv]; exact hrow.alloc _
  have hbs : base ≤ (w.alloc (.cells #[.string s] 9)).heap.size := Nat.le_trans hbase (by simp)
  have hb : ∀ w2, (w.alloc (.cells #[.string s] 9)).grownBy w2 (Value.slice a0 f.bytes.length c0v).ownBlock → w2.cell? ⟨f.blk, 0, none⟩ = some (.slice a0 f.bytes.length c0v) ∧ w2.frozen? ⟨f.blk, 0, none⟩ = false ∧
      (∀ v', (w2.setCell ⟨f.blk, 0, none⟩ v').heap[D]? = some (.cells #[.map (some M), .bool false, .int .i64 S.ops, .int .i64 S.ops, .int .i64 S.part] 49 (0, 0))) ∧ Keeps (fun b => f.v.ownBlock = some b) w w2 := by
    intro w2 hg
    rw [← hv] at hg
    have h1 := (hg.block f.blk (by simp; omega) (fun e => (hd.row_ne ho hf e.symm).2.2 s f hf rfl)).trans hf0
    have h2 := (hg.block D (by simp; omega) (fun e => (hd.row_ne ho hf e.symm).1 rfl)).trans hD0
    refine ⟨by simp [World.cell?, h1, hv], by simp [World.frozen?, h1], fun v' => ?_, ?_⟩
    · rw [Below.heap_setCell _ _ _ _ (hd.blk_ne_D hf).symm]; exact h2
    · exact (Keeps.alloc _ w _).trans (Keeps.grown hg (fun k e _ => e))
  have hfin : ∀ w2 a' c' w3, (w.alloc (.cells #[.string s] 9)).grownBy w2 (Value.slice a0 f.bytes.length c0v).ownBlock → w2.ownsRow base 5 1 (.slice a' (f.bytes.length + l.length) c') (f.bytes.length + l.length) (cellsOf f.bytes ++ cellsOf l) →
      ((Value.slice a' (f.bytes.length + l.length) c').ownBlock = (Value.slice a0 f.bytes.length c0v).ownBlock ∨ (Value.slice a' (f.bytes.length + l.length) c').ownBlock = some (w.alloc (.cells #[.string s] 9)).heap.size) →
      (∃ q, w3 = ((w2.setCell ⟨f.blk, 0, none⟩ (.slice a' (f.bytes.length + l.length) c')).setCell ⟨D, 2, none⟩ (.int .i64 (S.ops + 1))).drewN q) → Calls Try.prog 29 #[.pointer (some ⟨D, 0, none⟩), .int .i64 S.part] w3 fun e w' => e = .returned (.tuple #[]) ∧ Dead w D M S w' := by
    intro w2 a' c' w3 hg hown hloc h3
    have hloc' : (Value.slice a' (f.bytes.length + l.length) c').ownBlock = f.v.ownBlock ∨ ∃ k, (Value.slice a' (f.bytes.length + l.length) c').ownBlock = some k ∧ w.heap.size ≤ k := by
      rw [hv]
      exact hloc.imp id (fun h => ⟨_, h, by simp⟩)
    obtain ⟨r1, r2, r3⟩ := append_fin hd ho hf (hb w2 hg).2.2.2 hown hloc' h3
    exact dead_of (S' := appended S s f (.slice a' (f.bytes.length + l.length) c') l) r3 r1 r2 rfl (foot_appended hf hloc') hp (appended_len hf hl0 hlen)
  have HB := Lib.hid hb
  have HFIN := Lib.hid hfin
  have HR := Lib.hid hrow0
  have HV := Lib.hid hv
  have HS := Lib.hid hs
  have HN := Lib.hid cN
  have HC := Lib.hid hcall
  have HFF := Lib.hid hf
  clear hb hfin hD0 hf0 hrow hrow0 hv hD hs hat cN hx hcall hf
  go_enter Try.func7, Try.ntmps7
  go_wp2_with (first
    | (go_at_call 19; refine (refused_new D M _ _ _ w.heap.size 0 1 1 (fun _ => s) _ HD0.out (by omega) (fun _ _ => HS.out) (fun i hi => ?_)).mono ?_; (obtain rfl : i = 0 := by omega); exact HN.out; rintro e w' ⟨rfl, q, rfl⟩)
    | (at_builtin; refine wpList_append_bytes _ rfl _ _ 22 rfl base 5 i0 (.int .u8 0) Try.underlying22 hi hz0 hz1 hz2 rfl _ f.bytes.length (cellsOf f.bytes) rfl HR.out _ l rfl HX.out (by omega) hbs ?_; intro a' c' w2 hown2 hgrow2 hloc2; have hG := Lib.hid (p := (w.alloc (.cells #[.string s] 9)).grownBy w2 (Value.slice a0 f.bytes.length c0v).ownBlock) ⟨hgrow2.os, hgrow2.tape, hgrow2.output, hgrow2.size, hgrow2.block⟩; have c2 := (HB.out _ hG.out).1; have z2 := (HB.out _ hG.out).2.1; have HO := Lib.hid hown2; have HL := Lib.hid hloc2; clear hown2 hgrow2 hloc2)
    | (go_at_call 20; refine (done_cuts D _ _ S.ops S.part 21 #[] (fun w3 => Dead w D M S w3) _ ((HB.out _ hG.out).2.2.1 _) hops (fun q => HFIN.out w2 a' c' _ hG.out HO.out HL.out ⟨q, rfl⟩)).mono ?_; rintro e w' ⟨rfl, hw3⟩; have H3 := Lib.hid hw3; clear hw3))
  go_ret
  exact ⟨rfl, H3.out⟩

set_option maxHeartbeats 800000 in
theorem append_new_cut (base D M : Nat) (S : DS) (s : ByteArray) (x : Value) (l : List UInt8) (w : World) (hd : DiskIs w base D M S) (ho : Owned w base S) (hs : Named s) (hf : S.fs s = none)
    (hx : Bytes w x l) (hxl : l ≠ [] → ∀ k, x.ownBlock = some k → k < w.heap.size) (hxM : l ≠ [] → ∀ k, x.ownBlock = some k → k ≠ M) (hoff : S.off = false) (hn : S.n < 1000) (hops : S.ops ≤ 1000000) (hat : S.cutAt = S.ops) (hp : -9223372036854775808 ≤ S.part ∧ S.part ≤ 9223372036854775807) (hl0 : ∀ s f, S.fs s = some f → f.bytes.length ≤ 140737488355328) (hlen : l.length ≤ 140737488355328) (hbase : base ≤ w.heap.size) :
    Calls Try.prog 7 #[.pointer (some ⟨D, 0, none⟩), .string s, x] w fun e w' => e = .returned (.int .i64 122) ∧ Dead w D M S w' := by
  have hD := hd.disk
  rw [hoff, hat] at hD
  have hDlt := hd.D_lt
  have hMlt := hd.map.lt
  have hMD := hd.M_ne_D
  obtain ⟨i0, hi, hz0, hz1, hz2⟩ := info_parts Try.info5
  have hD0 : (w.alloc (.cells #[.string s] 9)).heap[D]? = some (.cells #[.map (some M), .bool false, .int .i64 S.ops, .int .i64 S.ops, .int .i64 S.part] 49 (0, 0)) := (Below.heap_alloc _ _ _ hDlt).trans hD
  have cM : (w.alloc (.cells #[.string s] 9)).cell? ⟨D, 0, none⟩ = some (.map (some M)) := by simp [World.cell?, hD0]
  have cM2 : ((w.alloc (.cells #[.string s] 9)).alloc (.cells #[.slice none 0 0, .int .i64 0] 53)).cell? ⟨D, 0, none⟩ = some (.map (some M)) := by simp [World.cell?, Below.heap_alloc _ _ D (show D < (w.alloc (.cells #[.string s] 9)).heap.size by simp; omega), hD0]
  have cN : (w.alloc (.cells #[.string s] 9)).cell? ⟨w.heap.size, 0, none⟩ = some (.string s) := by
    have hN0 := (MapKept.heap_alloc w (.cells #[.string s] 9)).1
    simp only [World.cell?, hN0]; rfl
  have hm1 : ∀ q, HasMap ((w.alloc (.cells #[.string s] 9)).drewN q) M S.n S.ptrs := fun q => hd.map.kept (by rw [heap_drewN]; exact Below.heap_alloc _ _ _ hd.map.lt)
  have hm2 : ∀ q, HasMap (((w.alloc (.cells #[.string s] 9)).alloc (.cells #[.slice none 0 0, .int .i64 0] 53)).drewN q) M S.n S.ptrs := fun q => (hm1 q).kept (by rw [heap_drewN, heap_drewN]; exact Below.heap_alloc _ _ _ (by simp; omega))
  have hl : ∀ q, (Instr.lookup 47 (.map (some M)) (.string s) false).run Try.prog ((w.alloc (.cells #[.string s] 9)).drewN q) = .ok (.pointer none) ((w.alloc (.cells #[.string s] 9)).drewN q) := fun q => by
    have := (hm1 q).look (P := Try.prog) (t := 47) (k := 9) (e := 51) rfl rfl (zero51 _) s
    rw [show S.ptrs s = none by simp [DS.ptrs, hf]] at this
    exact this
  have hln : ∀ q ty, (Builtin.len_ #[47] ty #[.map (some M)]).run Try.prog ((w.alloc (.cells #[.string s] 9)).drewN q) = .ok (.int .i64 S.n) ((w.alloc (.cells #[.string s] 9)).drewN q) := fun q ty => (hm1 q).len rfl ty
  have hcall : ∀ W, (callFunc 21 #[]).run Try.prog W = .ok (.enter 21 #[]) W := fun W => by kernel_rfl
  have hsz1 : (w.alloc (.cells #[.string s] 9)).heap.size = w.heap.size + 1 := by simp
  have hb2 : ∀ w2 q, (((w.alloc (.cells #[.string s] 9)).alloc (.cells #[.slice none 0 0, .int .i64 0] 53)).drewN q).grownBy w2 (some M) → w2.heap[w.heap.size + 1]? = some (.cells #[.slice none 0 0, .int .i64 0] 53 (0, 0)) ∧
      Bytes w2 x l ∧ base ≤ w2.heap.size ∧ Keeps (fun b => b = M) w w2 := by
    intro w2 q hg
    have h1 : ((w.alloc (.cells #[.string s] 9)).alloc (.cells #[.slice none 0 0, .int .i64 0] 53)).heap[w.heap.size + 1]? = some (.cells #[.slice none 0 0, .int .i64 0] 53 (0, 0)) := by
      rw [← hsz1]; exact (MapKept.heap_alloc _ _).1
    have hz := hg.size
    simp at hz
    refine ⟨(hg.block _ (by simp) (by simp; omega)).trans (by rw [heap_drewN]; exact h1), hx.kept0 (fun hn k hk => ?_), by omega, ?_⟩
    · have := hxl hn k hk
      have hne := hxM hn k hk
      rw [hg.block k (by simp; omega) (by simp; omega), heap_drewN, Below.heap_alloc _ _ _ (by simp; omega), Below.heap_alloc _ _ _ this]
    · exact (((Keeps.alloc _ w _).trans (Keeps.alloc _ _ _)).trans (Keeps.drewN _ _ _)).trans (Keeps.grown hg (fun k e _ => by cases e; rfl))
  have hb3 : ∀ w2 w3 q, (((w.alloc (.cells #[.string s] 9)).alloc (.cells #[.slice none 0 0, .int .i64 0] 53)).drewN q).grownBy w2 (some M) → w2.grownBy w3 none → w3.heap[w.heap.size + 1]? = some (.cells #[.slice none 0 0, .int .i64 0] 53 (0, 0)) ∧
      (∀ v', (w3.setCell ⟨w.heap.size + 1, 0, none⟩ v').heap[D]? = some (.cells #[.map (some M), .bool false, .int .i64 S.ops, .int .i64 S.ops, .int .i64 S.part] 49 (0, 0))) ∧ Keeps (fun b => b = M) w w3 := by
    intro w2 w3 q hg hg3
    obtain ⟨r1, r2, r3, r4⟩ := hb2 w2 q hg
    have hlt : w.heap.size + 1 < w2.heap.size := (Array.getElem?_eq_some_iff.1 r1).1
    refine ⟨(hg3.block _ hlt (by simp)).trans r1, fun v' => ?_, r4.trans (Keeps.grown hg3 (fun k e _ => by cases e))⟩
    rw [Below.heap_setCell _ _ _ _ (show D ≠ w.heap.size + 1 by omega), hg3.block D (by omega) (by simp), r4.block D hDlt hMD.symm]
    exact hD
  have hfin : ∀ w2 w3 q a' c' w4, (((w.alloc (.cells #[.string s] 9)).alloc (.cells #[.slice none 0 0, .int .i64 0] 53)).drewN q).grownBy w2 (some M) → w2.grownBy w3 none →
      HasMap w2 M (if (S.ptrs s).isSome = true then S.n else S.n + 1) (upd S.ptrs s (some (.pointer (some ⟨w.heap.size + 1, 0, none⟩)))) → w3.ownsRow base 5 1 (.slice a' l.length c') l.length (cellsOf l) →
      ((Value.slice a' l.length c').ownBlock = none ∨ (Value.slice a' l.length c').ownBlock = some w2.heap.size) →
      (∃ q, w4 = ((w3.setCell ⟨w.heap.size + 1, 0, none⟩ (.slice a' l.length c')).setCell ⟨D, 2, none⟩ (.int .i64 (S.ops + 1))).drewN q) → Calls Try.prog 29 #[.pointer (some ⟨D, 0, none⟩), .int .i64 S.part] w4 fun e w' => e = .returned (.tuple #[]) ∧ Dead w D M S w' := by
    intro w2 w3 q a' c' w4 hg hg3 hm hown hloc h4
    obtain ⟨r1, r2, r3, r4⟩ := hb2 w2 q hg
    obtain ⟨s1, s2, s3⟩ := hb3 w2 w3 q hg hg3
    have hpn : S.ptrs s = none := by simp [DS.ptrs, hf]
    rw [hpn] at hm
    have hm3 : HasMap w3 M (S.n + 1) (upd S.ptrs s (some (.pointer (some ⟨w.heap.size + 1, 0, none⟩)))) := HasMap.kept hm (hg3.block M hm.lt (by simp))
    have hloc' : ∀ k, (Value.slice a' l.length c').ownBlock = some k → w.heap.size ≤ k := by
      intro k hk
      have := r4.size
      rcases hloc with h | h
      · rw [h] at hk; cases hk
      · rw [h] at hk; cases hk; omega
    obtain ⟨t1, t2, t3⟩ := append_fin_new (blk := w.heap.size + 1) hd ho hf s3 (by omega) s1 hm3 hown hloc' hbase h4
    exact dead_of (S' := appendedNew S s (w.heap.size + 1) (.slice a' l.length c') l) t3 t1 t2 rfl (foot_appendedNew (by omega) hloc') hp (appendedNew_len hl0 hlen)
  have HB2 := Lib.hid hb2
  have HB3 := Lib.hid hb3
  have HFIN := Lib.hid hfin
  have HD0 := Lib.hid hD0
  have HS := Lib.hid hs
  have HN := Lib.hid cN
  have HM2 := Lib.hid hm2
  have HC := Lib.hid hcall
  have hge : decide ((1000 : Int) ≤ (S.n : Int)) = false := by simp; omega
  have HF := Lib.hid hf
  have HX := Lib.hid hx
  clear hb2 hb3 hfin hsz1 hD0 hD hs cN hf hm1 hm2 hat hcall hx
  go_enter Try.func7, Try.ntmps7
  go_wp2_with (first
    | (go_at_call 19; refine (refused_new D M _ _ _ w.heap.size 0 1 1 (fun _ => s) _ HD0.out (by omega) (fun _ _ => HS.out) (fun i hi => ?_)).mono ?_; (obtain rfl : i = 0 := by omega); exact HN.out; rintro e w' ⟨rfl, q, rfl⟩)
    | (at_mapUpdate; refine wpList_put _ rfl _ _ _ 47 rfl 9 51 Try.underlying47 Try.underlying9 M S.n S.ptrs rfl (HM2.out _) s (.pointer (some ⟨w.heap.size + 1, 0, none⟩)) rfl rfl ?_; intro w2 hm2 hg2 hs2; have HM := Lib.hid hm2; have HG := Lib.hid hg2; have hb2 := (HB2.out w2 _ HG.out).1; have c2 : w2.cell? ⟨w.heap.size + 1, 0, none⟩ = some (.slice none 0 0) := by simp [World.cell?, hb2]
       have HBY := Lib.hid (HB2.out w2 _ HG.out).2.1; have hbs2 := (HB2.out w2 _ HG.out).2.2.1; clear hm2 hg2 hs2 hb2)
    | (at_builtin; refine wpList_append_bytes_nil _ rfl _ _ 22 rfl base 5 i0 (.int .u8 0) Try.underlying22 hi hz0 hz1 hz2 rfl rfl _ l rfl HBY.out hlen hbs2 ?_; intro a' c' w3 hown3 hg3 hloc3; have HG3 := Lib.hid hg3; have HO := Lib.hid hown3; have HL := Lib.hid hloc3; have hb3 := (HB3.out w2 w3 _ HG.out HG3.out).1; have c3 : w3.cell? ⟨w.heap.size + 1, 0, none⟩ = some (.slice none 0 0) := by simp [World.cell?, hb3]
       have z3 : w3.frozen? ⟨w.heap.size + 1, 0, none⟩ = false := by simp [World.frozen?, hb3]
       clear hown3 hg3 hloc3 hb3 c2)
    | (go_at_call 20; refine (done_cuts D _ _ S.ops S.part 21 #[] (fun w3 => Dead w D M S w3) _ ((HB3.out w2 w3 _ HG.out HG3.out).2.1 _) hops (fun q => HFIN.out w2 w3 _ a' c' _ HG.out HG3.out HM.out HO.out HL.out ⟨q, rfl⟩)).mono ?_; rintro e w' ⟨rfl, hw4⟩; have H4 := Lib.hid hw4; clear hw4))
  go_ret
  exact ⟨rfl, H4.out⟩

set_option maxHeartbeats 800000 in
theorem remove_cut (base D M : Nat) (S : DS) (s : ByteArray) (f : DF) (w : World) (hd : DiskIs w base D M S) (ho : Owned w base S) (hs : Named s) (hf : S.fs s = some f) (hoff : S.off = false) (hops : S.ops ≤ 1000000) (hat : S.cutAt = S.ops) (hp : -9223372036854775808 ≤ S.part ∧ S.part ≤ 9223372036854775807) (hl0 : ∀ s f, S.fs s = some f → f.bytes.length ≤ 140737488355328) :
    Calls Try.prog 11 #[.pointer (some ⟨D, 0, none⟩), .string s] w fun e w' => e = .returned (.int .i64 122) ∧ Dead w D M S w' := by
  have hD := hd.disk
  rw [hoff, hat] at hD
  have hDlt := hd.D_lt
  have hMlt := hd.map.lt
  have hMD := hd.M_ne_D
  have hs1 : (w.alloc (.cells #[.pointer (some ⟨D, 0, none⟩)] 24)).heap.size = w.heap.size + 1 := by simp
  have hs2 : ((w.alloc (.cells #[.pointer (some ⟨D, 0, none⟩)] 24)).alloc (.cells #[.string s] 9)).heap.size = w.heap.size + 1 + 1 := by simp
  have old : ∀ b, b < w.heap.size → (((w.alloc (.cells #[.pointer (some ⟨D, 0, none⟩)] 24)).alloc (.cells #[.string s] 9)).alloc (.cells #[.string s] 9)).heap[b]? = w.heap[b]? := fun b hb => by
    rw [Below.heap_alloc _ _ _ (by omega), Below.heap_alloc _ _ _ (by omega), Below.heap_alloc _ _ _ hb]
  have hN1 : (((w.alloc (.cells #[.pointer (some ⟨D, 0, none⟩)] 24)).alloc (.cells #[.string s] 9)).alloc (.cells #[.string s] 9)).heap[w.heap.size]? = some (.cells #[.pointer (some ⟨D, 0, none⟩)] 24 (0, 0)) := by
    rw [Below.heap_alloc _ _ _ (by omega), Below.heap_alloc _ _ _ (by omega)]; exact (MapKept.heap_alloc _ _).1
  have hN2 : (((w.alloc (.cells #[.pointer (some ⟨D, 0, none⟩)] 24)).alloc (.cells #[.string s] 9)).alloc (.cells #[.string s] 9)).heap[w.heap.size + 1]? = some (.cells #[.string s] 9 (0, 0)) := by
    rw [Below.heap_alloc _ _ _ (by omega), ← hs1]; exact (MapKept.heap_alloc _ _).1
  have hN3 : (((w.alloc (.cells #[.pointer (some ⟨D, 0, none⟩)] 24)).alloc (.cells #[.string s] 9)).alloc (.cells #[.string s] 9)).heap[w.heap.size + 1 + 1]? = some (.cells #[.string s] 9 (0, 0)) := by
    rw [← hs2]; exact (MapKept.heap_alloc _ _).1
  have hK0 : Keeps (fun b => b = D) w (((w.alloc (.cells #[.pointer (some ⟨D, 0, none⟩)] 24)).alloc (.cells #[.string s] 9)).alloc (.cells #[.string s] 9)) := ((Keeps.alloc _ _ _).trans (Keeps.alloc _ _ _)).trans (Keeps.alloc _ _ _)
  have hpf : S.ptrs s = some (.pointer (some ⟨f.blk, 0, none⟩)) := by simp [DS.ptrs, hf, DF.ptr]
  generalize hw0 : ((w.alloc (.cells #[.pointer (some ⟨D, 0, none⟩)] 24)).alloc (.cells #[.string s] 9)).alloc (.cells #[.string s] 9) = w0 at old hN1 hN2 hN3 hK0
  have hD0 := (old D hDlt).trans hD
  have cN : w0.cell? ⟨w.heap.size + 1 + 1, 0, none⟩ = some (.string s) := by simp [World.cell?, hN3]
  have c1 : w0.cell? ⟨w.heap.size, 0, none⟩ = some (.pointer (some ⟨D, 0, none⟩)) := by simp [World.cell?, hN1]
  have hm0 : HasMap w0 M S.n S.ptrs := hd.map.kept (old M hMlt)
  -- what the closure finds
  have hdo : ∀ q q', Calls Try.prog 29 #[.pointer (some ⟨D, 0, none⟩), .int .i64 S.part] (((w0.drewN q).setCell ⟨D, 2, none⟩ (.int .i64 (S.ops + 1))).drewN q') fun e w' => e = .returned (.tuple #[]) ∧ Dead w D M S w' := by
    intro q q'
    have hset : ∀ b : Nat, b ≠ D → (((w0.drewN q).setCell ⟨D, 2, none⟩ (.int .i64 (S.ops + 1))).drewN q').heap[b]? = w0.heap[b]? := fun b hb => by
      rw [heap_drewN, Below.heap_setCell _ _ _ _ hb, heap_drewN]
    have hDs : (((w0.drewN q).setCell ⟨D, 2, none⟩ (.int .i64 (S.ops + 1))).drewN q').heap[D]? = some (.cells #[.map (some M), .bool false, .int .i64 (S.ops + 1), .int .i64 S.ops, .int .i64 S.part] 49 (0, 0)) := by
      rw [heap_drewN, heap_setCell_at (by rw [heap_drewN]; exact hD0)]; simp
    have hms : HasMap (((w0.drewN q).setCell ⟨D, 2, none⟩ (.int .i64 (S.ops + 1))).drewN q') M S.n S.ptrs := hm0.kept (hset M hMD)
    have hk1 : Keeps (fun b => b = D) w (((w0.drewN q).setCell ⟨D, 2, none⟩ (.int .i64 (S.ops + 1))).drewN q') := ((hK0.trans (Keeps.drewN _ _ _)).trans (Keeps.setCell (F := fun b => b = D) _ _ _ (fun _ => rfl))).trans (Keeps.drewN _ _ _)
    have hDt := hDs.trans (show _ = some (Obj.cells #[.map (some M), .bool S.off, .int .i64 (S.ops + 1), .int .i64 (S.cutAt), .int .i64 S.part] 49 (0, 0)) by rw [hoff, hat])
    obtain ⟨r1, r2, r3⟩ := tick_fin hd ho hk1 hDt
    exact dead_of (S' := ticked S) r3 r1 r2 rfl (fun _ _ h => h) hp hl0
  have HDO := Lib.hid hdo
  have HD0 := Lib.hid hD0
  have HS := Lib.hid hs
  have HN := Lib.hid cN
  have HM0 := Lib.hid hm0
  have HPF := Lib.hid hpf
  have HW0 := Lib.hid hw0
  clear hdo hD0 hs cN hm0 hpf hat hw0 hN1 hN2 hN3 hD old hs1 hs2 hoff hd ho hf hK0
  go_enter Try.func11, Try.ntmps11
  go_wp2_with (first
    | (go_at_call 19; rw [HW0.out]; refine (refused_there D M _ _ _ _ (w.heap.size + 1 + 1) 0 1 1 (fun _ => s) S.ptrs _ _ HD0.out (by omega) (by omega) (fun _ _ => HS.out) (fun i hi => ?_) HM0.out HPF.out).mono ?_; (obtain rfl : i = 0 := by omega); exact HN.out; rintro e w' ⟨rfl, q, rfl⟩)
    | (go_at_call 20; refine (done_cuts D _ _ S.ops S.part 23 _ (fun w3 => Dead w D M S w3) _ (by rw [heap_drewN]; exact HD0.out) hops (fun q' => HDO.out _ q')).mono ?_; rintro e w' ⟨rfl, hw3⟩; have H3 := Lib.hid hw3; clear hw3))
  go_ret
  exact ⟨rfl, H3.out⟩

set_option maxHeartbeats 800000 in
theorem sync_cut (base D M : Nat) (S : DS) (s : ByteArray) (f : DF) (w : World) (hd : DiskIs w base D M S) (ho : Owned w base S) (hs : Named s) (hf : S.fs s = some f) (hoff : S.off = false) (hops : S.ops ≤ 1000000) (hat : S.cutAt = S.ops) (hp : -9223372036854775808 ≤ S.part ∧ S.part ≤ 9223372036854775807) (hl0 : ∀ s f, S.fs s = some f → f.bytes.length ≤ 140737488355328)
    (hl : f.bytes.length ≤ 140737488355328) :
    Calls Try.prog 16 #[.pointer (some ⟨D, 0, none⟩), .string s] w fun e w' => e = .returned (.int .i64 122) ∧ Dead w D M S w' := by
  have hD := hd.disk
  rw [hoff, hat] at hD
  have hDlt := hd.D_lt
  have hMlt := hd.map.lt
  have hMD := hd.M_ne_D
  have hblt := hd.blk_lt hf
  have hbD := hd.blk_ne_D hf
  have hbM := hd.blk_ne_M hf
  have hv : ∃ a0 c0, f.v = .slice a0 f.bytes.length c0 := by
    rcases (ho.row s f hf).2 with ⟨h, hn⟩ | ⟨g, cap, cur, h, _⟩
    · exact ⟨none, 0, by rw [h, hn]⟩
    · exact ⟨_, _, h⟩
  obtain ⟨a0, c0v, hv⟩ := hv
  have hpf : S.ptrs s = some (.pointer (some ⟨f.blk, 0, none⟩)) := by simp [DS.ptrs, hf, DF.ptr]
  have hs1 : (w.alloc (.cells #[.string s] 9)).heap.size = w.heap.size + 1 := by simp
  have old : ∀ b, b < w.heap.size → (w.alloc (.cells #[.string s] 9)).heap[b]? = w.heap[b]? := fun b hb => Below.heap_alloc _ _ _ hb
  have hN : (w.alloc (.cells #[.string s] 9)).heap[w.heap.size]? = some (.cells #[.string s] 9 (0, 0)) := (MapKept.heap_alloc _ _).1
  have hm0 : HasMap (w.alloc (.cells #[.string s] 9)) M S.n S.ptrs := hd.map.kept (old M hMlt)
  have hD0 := (old D hDlt).trans hD
  have cN : (w.alloc (.cells #[.string s] 9)).cell? ⟨w.heap.size, 0, none⟩ = some (.string s) := by simp only [World.cell?, hN]; rfl
  have cM : (w.alloc (.cells #[.string s] 9)).cell? ⟨D, 0, none⟩ = some (.map (some M)) := by simp [World.cell?, hD0]
  have hlk : ∀ q, (Instr.lookup 47 (.map (some M)) (.string s) false).run Try.prog ((w.alloc (.cells #[.string s] 9)).drewN q) = .ok (.pointer (some ⟨f.blk, 0, none⟩)) ((w.alloc (.cells #[.string s] 9)).drewN q) := fun q => by
    have := (HasMap.kept (w' := (w.alloc (.cells #[.string s] 9)).drewN q) hm0 (by rw [heap_drewN])).look (P := Try.prog) (t := 47) (k := 9) (e := 51) rfl rfl (zero51 _) s
    rw [hpf] at this
    exact this
  have old2 : ∀ b, b < w.heap.size → ((w.alloc (.cells #[.string s] 9)).alloc (.cells #[.pointer (some ⟨f.blk, 0, none⟩)] 51)).heap[b]? = w.heap[b]? := fun b hb => by
    rw [Below.heap_alloc _ _ _ (by omega), old b hb]
  have hB2 : ((w.alloc (.cells #[.string s] 9)).alloc (.cells #[.pointer (some ⟨f.blk, 0, none⟩)] 51)).heap[w.heap.size + 1]? = some (.cells #[.pointer (some ⟨f.blk, 0, none⟩)] 51 (0, 0)) := by
    rw [← hs1]; exact (MapKept.heap_alloc _ _).1
  have hK2 : ∀ F : Nat → Prop, Keeps F w ((w.alloc (.cells #[.string s] 9)).alloc (.cells #[.pointer (some ⟨f.blk, 0, none⟩)] 51)) := fun F => (Keeps.alloc _ _ _).trans (Keeps.alloc _ _ _)
  have hdo : ∀ q q', Calls Try.prog 29 #[.pointer (some ⟨D, 0, none⟩), .int .i64 S.part] (((((w.alloc (.cells #[.string s] 9)).alloc (.cells #[.pointer (some ⟨f.blk, 0, none⟩)] 51)).drewN q).setCell ⟨D, 2, none⟩ (.int .i64 (S.ops + 1))).drewN q') fun e w' => e = .returned (.tuple #[]) ∧ Dead w D M S w' := by
    intro q q'
    generalize ((w.alloc (.cells #[.string s] 9)).alloc (.cells #[.pointer (some ⟨f.blk, 0, none⟩)] 51)) = w0 at old2 hB2 hK2
    have hset : ∀ b : Nat, b ≠ D → (((w0.drewN q).setCell ⟨D, 2, none⟩ (.int .i64 (S.ops + 1))).drewN q').heap[b]? = w0.heap[b]? := fun b hb => by
      rw [heap_drewN, Below.heap_setCell _ _ _ _ hb, heap_drewN]
    have hDs : (((w0.drewN q).setCell ⟨D, 2, none⟩ (.int .i64 (S.ops + 1))).drewN q').heap[D]? = some (.cells #[.map (some M), .bool false, .int .i64 (S.ops + 1), .int .i64 S.ops, .int .i64 S.part] 49 (0, 0)) := by
      rw [heap_drewN, heap_setCell_at (by rw [heap_drewN, old2 D hDlt]; exact hD)]; simp
    have hk1 : Keeps (fun b => b = D) w (((w0.drewN q).setCell ⟨D, 2, none⟩ (.int .i64 (S.ops + 1))).drewN q') := (((hK2 _).trans (Keeps.drewN _ _ _)).trans (Keeps.setCell (F := fun b => b = D) _ _ _ (fun _ => rfl))).trans (Keeps.drewN _ _ _)
    have hDt := hDs.trans (show _ = some (Obj.cells #[.map (some M), .bool S.off, .int .i64 (S.ops + 1), .int .i64 (S.cutAt), .int .i64 S.part] 49 (0, 0)) by rw [hoff, hat])
    obtain ⟨r1, r2, r3⟩ := tick_fin hd ho hk1 hDt
    exact dead_of (S' := ticked S) r3 r1 r2 rfl (fun _ _ h => h) hp hl0
  have hDd : ∀ q, (((w.alloc (.cells #[.string s] 9)).alloc (.cells #[.pointer (some ⟨f.blk, 0, none⟩)] 51)).drewN q).heap[D]? = some (.cells #[.map (some M), .bool false, .int .i64 S.ops, .int .i64 S.ops, .int .i64 S.part] 49 (0, 0)) := fun q => by
    rw [heap_drewN, old2 D hDlt]; exact hD
  have HDO := Lib.hid hdo
  have HDD := Lib.hid hDd
  have HD0 := Lib.hid hD0
  have HS := Lib.hid hs
  have HN := Lib.hid cN
  have HM0 := Lib.hid hm0
  have HPF := Lib.hid hpf
  clear hdo hDd hD0 hs cN hm0 hpf hat hN hD old old2 hs1 hB2 hoff hd ho hf hK2 hv
  go_enter Try.func16, Try.ntmps16
  go_wp2_with (first
    | (go_at_call 19; refine (refused_there D M _ _ _ _ w.heap.size 0 1 1 (fun _ => s) S.ptrs _ _ HD0.out (by omega) (by omega) (fun _ _ => HS.out) (fun i hi => ?_) HM0.out HPF.out).mono ?_; (obtain rfl : i = 0 := by omega); exact HN.out; rintro e w' ⟨rfl, q, rfl⟩)
    | (go_at_call 20; refine (done_cuts D _ _ S.ops S.part 28 _ (fun w3 => Dead w D M S w3) _ (HDD.out _) hops (fun q' => HDO.out _ q')).mono ?_; rintro e w' ⟨rfl, hw3⟩; have H3 := Lib.hid hw3; clear hw3))
  go_ret
  exact ⟨rfl, H3.out⟩

end Go.Proofs.Ytigbodokmkpohaa
