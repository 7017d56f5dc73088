/- The cut. -/
import Derived.Test.YtigbodokmkpohaaM
import Derived.Deep.LoopGhost
namespace Go.Proofs.Ytigbodokmkpohaa
open Go.RowKit

/-- How many bytes a cut leaves of a file. -/
def cutN (part : Int) (f : DF) : Nat := f.syn + min (max part 0).toNat (f.bytes.length - f.syn)
def cutV (v : Value) (k : Nat) : Value := match v with | .slice a _ _ => .slice a k k | v => v
def cutF (part : Int) (f : DF) : DF := { blk := f.blk, v := cutV f.v (cutN part f), bytes := f.bytes.take (cutN part f), syn := cutN part f }

theorem run_slice_front {P : Program} (t e : TypeId) (ht : P.underlying t = some (.slice e)) (i : TypeInfo) (hi : P.info? e = some i) (a : Option Addr) (n c k : Nat) (hk : k ≤ c) (W : World) :
    (Instr.slice t (.slice a n c) none (some (.int .i64 k)) (some (.int .i64 k))).run P W = .ok (.slice a k k) W := by
  have h1 : (k : Int) ≤ (c : Int) := by omega
  have h0 : (0 : Int) ≤ (k : Int) := by omega
  have ha : a.map (fun x : Addr => x.add 0) = a := by cases a <;> simp [Addr.add]
  simp [Instr.slice, Instr.sliceBounds, Instr.sliceBound, run_underlying ht, asIntOf, sizeOf, typeInfo, hi, h0, h1, hk, Result.andThen, ha]

/-- The files' cells in the middle of a cut. -/
def Mid (S : DS) (part : Int) (left : ByteArray → Prop) (w : World) : Prop :=
  ∀ s f, S.fs s = some f → (left s → w.heap[f.blk]? = some (.cells #[f.v, .int .i64 f.syn] 53 (0, 0))) ∧ (¬ left s → w.heap[f.blk]? = some (.cells #[cutV f.v (cutN part f), .int .i64 (cutN part f)] 53 (0, 0)))

def CutRel (base D M r : Nat) (S : DS) (part : Int) (w : World) (k : Nat) (wr : World) : Prop :=
  ∃ left cnt, RangeAt wr M r S.n S.ptrs left cnt ∧ cnt ≤ k ∧ Mid S part left wr ∧ Keeps (fun b => ∃ s f, S.fs s = some f ∧ b = f.blk) w wr ∧ w.heap.size ≤ r

theorem cut_rel_start {base D M : Nat} {S : DS} {part : Int} {w : World} (hd : DiskIs w base D M S) (o : Obj) (cnt : Nat) (hrg : RangeAt (w.alloc o) M w.heap.size S.n S.ptrs (fun s => S.ptrs s ≠ none) cnt) : CutRel base D M w.heap.size S part w cnt (w.alloc o) := by
  refine ⟨_, cnt, hrg, Nat.le_refl _, fun s f hf => ⟨fun _ => ?_, fun h => absurd (by simp [DS.ptrs, hf]) h⟩, Keeps.alloc _ _ _, Nat.le_refl _⟩
  rw [Below.heap_alloc _ _ _ (hd.blk_lt hf)]
  exact hd.file s f hf

theorem cut_rel_step {base D M : Nat} {S : DS} {part : Int} {w wr w1 W2 w4 : World} {left : ByteArray → Prop} {cnt1 k : Nat} {s : ByteArray} {f : DF} (hd : DiskIs w base D M S) (hf : S.fs s = some f) (hmid : Mid S part left wr)
    (hkp : Keeps (fun b => ∃ s f, S.fs s = some f ∧ b = f.blk) w wr) (hrg1 : RangeAt w1 M w.heap.size S.n S.ptrs (fun t => left t ∧ t ≠ s) cnt1) (hg1 : wr.grownBy w1 (some w.heap.size))
    (hfw : w1.heap[f.blk]? = some (.cells #[f.v, .int .i64 f.syn] 53 (0, 0))) (hk : k = cutN part f)
    (hW2 : W2 = (w1.setCell ⟨f.blk, 1, none⟩ (.int .i64 k)).drew) (h4 : w4 = (W2.setCell ⟨f.blk, 0, none⟩ (cutV f.v k)).drew) : CutRel base D M w.heap.size S part w cnt1 w4 := by
  subst hk
  have far : ∀ b : Nat, b ≠ f.blk → w4.heap[b]? = w1.heap[b]? := by
    intro b hb
    subst h4; subst hW2
    show (((w1.setCell ⟨f.blk, 1, none⟩ (.int .i64 (cutN part f))).drew).setCell ⟨f.blk, 0, none⟩ (cutV f.v (cutN part f))).heap[b]? = _
    rw [Below.heap_setCell _ _ _ _ hb]
    show (w1.setCell ⟨f.blk, 1, none⟩ (.int .i64 (cutN part f))).heap[b]? = _
    rw [Below.heap_setCell _ _ _ _ hb]
  have at_ : w4.heap[f.blk]? = some (.cells #[cutV f.v (cutN part f), .int .i64 (cutN part f)] 53 (0, 0)) := by
    subst h4; subst hW2
    show (((w1.setCell ⟨f.blk, 1, none⟩ (.int .i64 (cutN part f))).drew).setCell ⟨f.blk, 0, none⟩ (cutV f.v (cutN part f))).heap[f.blk]? = _
    have h1 : ((w1.setCell ⟨f.blk, 1, none⟩ (.int .i64 (cutN part f))).drew).heap[f.blk]? = some (.cells #[f.v, .int .i64 (cutN part f)] 53 (0, 0)) := by
      show (w1.setCell ⟨f.blk, 1, none⟩ (.int .i64 (cutN part f))).heap[f.blk]? = _
      rw [heap_setCell_at hfw]; simp
    rw [heap_setCell_at h1]; simp
  have kp : Keeps (fun b => ∃ s f, S.fs s = some f ∧ b = f.blk) w w4 := by
    have k1 : Keeps (fun b => b = w.heap.size ∨ ∃ s f, S.fs s = some f ∧ b = f.blk) wr w4 := by
      subst h4; subst hW2
      refine (((Keeps.grown hg1 (fun k e _ => by cases e; exact .inl rfl)).trans (Keeps.setCell _ _ _ (fun _ => .inr ⟨s, f, hf, rfl⟩))).trans (c := (w1.setCell ⟨f.blk, 1, none⟩ (.int .i64 (cutN part f))).drew) (Keeps.drewN _ _ 1)).trans ?_
      exact (Keeps.setCell _ _ _ (fun _ => .inr ⟨s, f, hf, rfl⟩)).trans (Keeps.drewN _ _ 1)
    exact hkp.trans' k1 (fun i hi h => h.elim (fun e => absurd hi (by omega)) id)
  have hr : w.heap.size ≠ f.blk := by have := hd.blk_lt hf; omega
  refine ⟨_, cnt1, hrg1.kept (far M (hd.blk_ne_M hf).symm) (far _ hr), Nat.le_refl _, fun t g hg => ?_, kp, Nat.le_refl _⟩
  by_cases hts : t = s
  · subst hts
    rw [hf] at hg; cases hg
    exact ⟨fun h => absurd rfl h.2, fun _ => at_⟩
  · have hne : g.blk ≠ f.blk := fun e => hts (hd.inj t s g f hg hf e)
    have h1 : w4.heap[g.blk]? = wr.heap[g.blk]? := (far g.blk hne).trans (hg1.block g.blk (by have := hd.blk_lt hg; have := hkp.size; omega) (by have := hd.blk_lt hg; simp; omega))
    rw [h1]
    exact ⟨fun h => (hmid t g hg).1 h.1, fun h => (hmid t g hg).2 (fun hl => h ⟨hl, hts⟩)⟩

def cutS (S : DS) (part : Int) : DS := { S with off := true, fs := fun s => (S.fs s).map (cutF part) }

/-- What a cut comes to. -/
def CutIs (w : World) (base D M : Nat) (S : DS) (part : Int) (w' : World) : Prop :=
  DiskIs w' base D M (cutS S part) ∧ (∀ s f, (cutS S part).fs s = some f → Bytes w' f.v f.bytes ∧ ∀ k, f.v.ownBlock = some k → k < w'.heap.size) ∧ Keeps (Foot D M S) w w'

theorem cutN_le {part : Int} {f : DF} (h : f.syn ≤ f.bytes.length) : cutN part f ≤ f.bytes.length := by unfold cutN; omega

theorem cutV_own (v : Value) (k : Nat) : (cutV v k).ownBlock = v.ownBlock := by
  unfold cutV
  split
  · rename_i a _ _; cases a <;> rfl
  · rfl

theorem cut_fin {base D M r k : Nat} {S : DS} {part : Int} {w wr w' : World} {left : ByteArray → Prop} (hd : DiskIs w base D M S) (ho : Owned w base S) (hmid : Mid S part left wr) (hno : ∀ s, ¬ left s)
    (hrg : RangeAt wr M r S.n S.ptrs left k) (hkp : Keeps (fun b => ∃ s f, S.fs s = some f ∧ b = f.blk) w wr) (h' : w' = wr.setCell ⟨D, 1, none⟩ (.bool true)) : CutIs w base D M S part w' := by
  subst h'
  have hDw : wr.heap[D]? = some (.cells #[.map (some M), .bool S.off, .int .i64 S.ops, .int .i64 S.cutAt, .int .i64 S.part] 49 (0, 0)) := (hkp.block D hd.D_lt (fun ⟨s, f, hf, e⟩ => hd.blk_ne_D hf e.symm)).trans hd.disk
  have far : ∀ b : Nat, b ≠ D → (wr.setCell ⟨D, 1, none⟩ (.bool true)).heap[b]? = wr.heap[b]? := fun b hb => Below.heap_setCell _ _ _ _ hb
  have hfs : ∀ t g, (cutS S part).fs t = some g → ∃ f, S.fs t = some f ∧ g = cutF part f := by
    intro t g hg
    simp only [cutS, Option.map_eq_some_iff] at hg
    obtain ⟨f, hf, rfl⟩ := hg
    exact ⟨f, hf, rfl⟩
  refine ⟨⟨?_, ?_, ?_, ?_, ?_, ?_⟩, ?_, ?_⟩
  · rw [heap_setCell_at hDw]; simp [cutS]
  · have e1 : (cutS S part).ptrs = S.ptrs := by
      funext t
      simp only [DS.ptrs, cutS, Option.map_map]
      rfl
    rw [e1]
    exact hrg.map.kept (far M hd.M_ne_D)
  · intro t g hg
    obtain ⟨f, hf, rfl⟩ := hfs t g hg
    have : (cutF part f).blk = f.blk := rfl
    rw [this, far _ (hd.blk_ne_D hf)]
    exact (hmid t f hf).2 (hno t)
  · intro t g hg
    obtain ⟨f, hf, rfl⟩ := hfs t g hg
    simp only [cutF, List.length_take]
    have := cutN_le (part := part) (hd.syn t f hf)
    omega
  · refine ⟨hd.lo.1, hd.lo.2.1, fun t g hg => ?_⟩
    obtain ⟨f, hf, rfl⟩ := hfs t g hg
    exact hd.lo.2.2 t f hf
  · intro t u g g' hg hg' e
    obtain ⟨f, hf, rfl⟩ := hfs t g hg
    obtain ⟨f', hf', rfl⟩ := hfs u g' hg'
    exact hd.inj t u f f' hf hf' e
  · intro t g hg
    obtain ⟨f, hf, rfl⟩ := hfs t g hg
    have hle := cutN_le (part := part) (hd.syn t f hf)
    have hrow := ho.row t f hf
    have hown : (cutF part f).v.ownBlock = f.v.ownBlock := cutV_own _ _
    constructor
    · have hb := Bytes.of_own hrow
      simp only [cutF]
      rcases hb with ⟨hv, hn⟩ | ⟨a, c, hv, hc⟩
      · have h0 : cutN part f = 0 := by rw [hn] at hle; simpa using hle
        exact .inl ⟨by rw [hv, h0]; rfl, by rw [hn]; simp⟩
      · have hsame : (wr.setCell ⟨D, 1, none⟩ (.bool true)).heap[a.block]? = w.heap[a.block]? := by
          have hk : f.v.ownBlock = some a.block := by rw [hv]; rfl
          have rn := hd.row_ne ho hf hk
          rw [far _ rn.1, hkp.block _ (ho.lt hf hk) (fun ⟨u, g, hg, e⟩ => rn.2.2 u g hg e)]
        refine .inr ⟨a, cutN part f, by rw [hv]; simp only [cutV, List.length_take]; congr 1; omega, fun j u hu => ?_⟩
        have hu' : (cellsOf f.bytes)[j]? = some u := by
          simp only [cellsOf, List.map_take] at hu
          simp only [cellsOf]
          rw [List.getElem?_take] at hu
          split at hu
          · exact hu
          · cases hu
        rw [← hc j u hu']
        have hb : (a.add j).block = a.block := by unfold Addr.add; split <;> rfl
        exact World.cell?_of_block (by rw [hb]; exact hsame)
    · intro k hk
      rw [hown] at hk
      have := ho.lt hf hk
      have := hkp.size
      simp [World.setCell]
      omega
  · exact (hkp.mono (fun b _ ⟨s, f, hf, e⟩ => .inr (.inr ⟨s, f, hf, .inl e⟩))).trans (Keeps.setCell _ _ _ (fun _ => .inl rfl))

set_option maxHeartbeats 800000 in
theorem cut_any (base D M : Nat) (S : DS) (part : Int) (w : World) (hd : DiskIs w base D M S) (ho : Owned w base S) (hp : -9223372036854775808 ≤ part ∧ part ≤ 9223372036854775807) (hl : ∀ s f, S.fs s = some f → f.bytes.length ≤ 140737488355328) :
    Calls Try.prog 29 #[.pointer (some ⟨D, 0, none⟩), .int .i64 part] w fun e w' => e = .returned (.tuple #[]) ∧ CutIs w base D M S part w' := by
  have hD := hd.disk
  have c0 : w.cell? ⟨D, 0, none⟩ = some (.map (some M)) := by simp [World.cell?, hD]
  obtain ⟨o, cnt, hrun, hrg⟩ := hd.map.range (P := Try.prog) (t := 47) (k := 9) (e := 51) rfl
  have hDlt := hd.D_lt
  obtain ⟨i0, hi, hz0, hz1, hz2⟩ := info_parts Try.info5
  have HI := Lib.hid hi
  clear hi hz0 hz1 hz2
  have HRG := Lib.hid hrg
  have HD := Lib.hid hD
  clear hD hrg
  go_enter Try.func29, Try.ntmps29
  go_wp2_with fail
  go_loopg [5] cnt (fun k p wr => CutRel base D M w.heap.size S part w k wr)
  case atStart => exact cut_rel_start hd o _ HRG.out
  case round =>
    obtain ⟨left, cnt, hrg, hck, hmid, hkp, hle⟩ := hrel
    have hDw : wr.heap[D]? = some (.cells #[.map (some M), .bool S.off, .int .i64 S.ops, .int .i64 S.cutAt, .int .i64 S.part] 49 (0, 0)) := (hkp.block D hDlt (fun ⟨s, f, hf, e⟩ => hd.blk_ne_D hf e.symm)).trans HD.out
    rcases hrg.next (P := Try.prog) 0 with ⟨hno, hnx⟩ | ⟨s, v, w1, cnt1, hls, hsv, hnx, hrg1, hlt1, hg1, hs1, hen⟩
    · have c1 : wr.cell? ⟨D, 1, none⟩ = some (.bool S.off) := by simp [World.cell?, hDw]
      have f1 : wr.frozen? ⟨D, 1, none⟩ = false := by simp [World.frozen?, hDw]
      clear hDw
      go_wp2_with fail
      go_end0
      exact ⟨rfl, cut_fin hd ho hmid hno hrg hkp rfl⟩
    · obtain ⟨f, hf, rfl⟩ : ∃ f, S.fs s = some f ∧ v = .pointer (some ⟨f.blk, 0, none⟩) := by
        simp only [DS.ptrs, Option.map_eq_some_iff] at hsv
        obtain ⟨f, hf, rfl⟩ := hsv
        exact ⟨f, hf, rfl⟩
      have hrne : f.blk ≠ w.heap.size := by have := hd.blk_lt hf; omega
      have hfw : w1.heap[f.blk]? = some (.cells #[f.v, .int .i64 f.syn] 53 (0, 0)) := (hg1.block f.blk (by have := hkp.size; have := hd.blk_lt hf; omega) (by simp; omega)).trans ((hmid s f hf).1 hls)
      have hv : ∃ a0 c0, f.v = .slice a0 f.bytes.length c0 := by
        rcases (ho.row s f hf).2 with ⟨h, hn⟩ | ⟨g, cap, cur, h, _⟩
        · exact ⟨none, 0, by rw [h, hn]⟩
        · exact ⟨_, _, h⟩
      obtain ⟨a0, c0v, hv⟩ := hv
      have d0 : w1.cell? ⟨f.blk, 0, none⟩ = some (.slice a0 f.bytes.length c0v) := by simp [World.cell?, hfw, hv]
      have d1 : w1.cell? ⟨f.blk, 1, none⟩ = some (.int .i64 f.syn) := by simp [World.cell?, hfw]
      have e0 : w1.frozen? ⟨f.blk, 0, none⟩ = false := by simp [World.frozen?, hfw]
      have e1 : w1.frozen? ⟨f.blk, 1, none⟩ = false := by simp [World.frozen?, hfw]
      have hle1 := hl s f hf
      have hsy := hd.syn s f hf
      have hcap : f.bytes.length ≤ c0v := by
        rcases (ho.row s f hf).2 with ⟨h, hn⟩ | ⟨g, cap, cur, h, _, _, hc, _⟩
        · rw [hn]; exact Nat.zero_le _
        · rw [hv] at h; cases h; exact hc
      have q1 : IntKind.i64.wrap ((f.bytes.length : Int) - (f.syn : Int)) = (f.bytes.length : Int) - (f.syn : Int) := IntWalk.i64_in _ (by omega)
      have HV := Lib.hid hv
      have HSV := Lib.hid hsv
      have HF := Lib.hid hf
      have HS1 := Lib.hid hs1
      have HDW := Lib.hid hDw
      have HFW := Lib.hid hfw
      clear hv hsv hf hs1 hDw hfw
      have hw2 : ∀ k : Nat, ∃ W2 : World, W2 = (w1.setCell ⟨f.blk, 1, none⟩ (.int .i64 k)).drew ∧ W2.cell? ⟨f.blk, 0, none⟩ = some (.slice a0 f.bytes.length c0v) ∧ W2.cell? ⟨f.blk, 1, none⟩ = some (.int .i64 k) ∧ W2.frozen? ⟨f.blk, 0, none⟩ = false ∧
          W2.heap[f.blk]? = some (.cells #[f.v, .int .i64 k] 53 (0, 0)) := fun k => by
        have hh : (w1.setCell ⟨f.blk, 1, none⟩ (.int .i64 k)).drew.heap[f.blk]? = some (.cells #[f.v, .int .i64 k] 53 (0, 0)) := by
          show (w1.setCell ⟨f.blk, 1, none⟩ (.int .i64 k)).heap[f.blk]? = _
          rw [heap_setCell_at HFW.out]; simp
        refine ⟨_, rfl, by simp only [World.cell?, hh]; simp [HV.out], by simp only [World.cell?, hh]; simp, by simp only [World.frozen?, hh]; simp, hh⟩
      have HW2 := Lib.hid hw2
      clear hw2
      obtain ⟨k, hk⟩ : ∃ k, k = cutN part f := ⟨_, rfl⟩
      have hkl : k ≤ f.bytes.length := by rw [hk]; unfold cutN; omega
      have HK := Lib.hid hk
      rcases (show part < 0 ∨ (0 ≤ part ∧ part ≤ (f.bytes.length : Int) - (f.syn : Int)) ∨ (f.bytes.length : Int) - (f.syn : Int) < part by omega) with hA | ⟨hB1, hB2⟩ | hC
      · have q2 : IntKind.i64.wrap (f.syn : Int) = (k : Int) := by rw [IntWalk.i64_in _ (by omega), hk]; unfold cutN; omega
        clear hk
        go_wp2_with fail
        go_still_tail 20, (by kernel_rfl)
        change wpList _ _ _ _ _ w1.drew
        go_wp2_with fail
        obtain ⟨W2, hW2, g0, g1, gf, hW0⟩ := HW2.out k
        have HW := Lib.hid hW2
        rw [← hW2]
        clear hW2 d0 d1 e0 e1 hnx hen hrun
        have hsl := run_slice_front (P := Try.prog) 22 5 Try.underlying22 i0 HI.out a0 f.bytes.length c0v k (by omega)
        go_still_tail 16, (by kernel_rfl)
        change wpList _ _ _ _ _ W2.drew
        go_wp2_with fail
        go_roundg cnt1
        case measure => omega
        case rel => exact cut_rel_step hd HF.out hmid hkp hrg1 hg1 HFW.out HK.out HW.out (by rw [HV.out]; rfl)
      · have q2 : IntKind.i64.wrap ((f.syn : Int) + part) = (k : Int) := by rw [IntWalk.i64_in _ (by omega), hk]; unfold cutN; omega
        clear hk
        go_wp2_with fail
        go_still_tail 20, (by kernel_rfl)
        change wpList _ _ _ _ _ w1.drew
        go_wp2_with fail
        obtain ⟨W2, hW2, g0, g1, gf, hW0⟩ := HW2.out k
        have HW := Lib.hid hW2
        rw [← hW2]
        clear hW2 d0 d1 e0 e1 hnx hen hrun
        have hsl := run_slice_front (P := Try.prog) 22 5 Try.underlying22 i0 HI.out a0 f.bytes.length c0v k (by omega)
        go_still_tail 16, (by kernel_rfl)
        change wpList _ _ _ _ _ W2.drew
        go_wp2_with fail
        go_roundg cnt1
        case measure => omega
        case rel => exact cut_rel_step hd HF.out hmid hkp hrg1 hg1 HFW.out HK.out HW.out (by rw [HV.out]; rfl)
      · have q2 : IntKind.i64.wrap ((f.syn : Int) + ((f.bytes.length : Int) - (f.syn : Int))) = (k : Int) := by rw [IntWalk.i64_in _ (by omega), hk]; unfold cutN; omega
        clear hk
        go_wp2_with fail
        go_still_tail 20, (by kernel_rfl)
        change wpList _ _ _ _ _ w1.drew
        go_wp2_with fail
        obtain ⟨W2, hW2, g0, g1, gf, hW0⟩ := HW2.out k
        have HW := Lib.hid hW2
        rw [← hW2]
        clear hW2 d0 d1 e0 e1 hnx hen hrun
        have hsl := run_slice_front (P := Try.prog) 22 5 Try.underlying22 i0 HI.out a0 f.bytes.length c0v k (by omega)
        go_still_tail 16, (by kernel_rfl)
        change wpList _ _ _ _ _ W2.drew
        go_wp2_with fail
        go_roundg cnt1
        case measure => omega
        case rel => exact cut_rel_step hd HF.out hmid hkp hrg1 hg1 HFW.out HK.out HW.out (by rw [HV.out]; rfl)

end Go.Proofs.Ytigbodokmkpohaa
