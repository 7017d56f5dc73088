/- Remove. -/
import Derived.Test.YtigbodokmkpohaaK
namespace Go.Proofs.Ytigbodokmkpohaa
open Go.RowKit

def removed (S : DS) (s : ByteArray) : DS := { S with ops := S.ops + 1, n := S.n - 1, fs := upd S.fs s none }

theorem remove_fin {w w3 : World} {base D M : Nat} {S : DS} {s : ByteArray} (hd : DiskIs w base D M S) (ho : Owned w base S)
    (hk : Keeps (fun b => b = D ∨ b = M) w w3) (hD : w3.heap[D]? = some (.cells #[.map (some M), .bool S.off, .int .i64 (S.ops + 1), .int .i64 S.cutAt, .int .i64 S.part] 49 (0, 0)))
    (hm : HasMap w3 M (S.n - 1) (upd S.ptrs s none)) :
    DiskIs w3 base D M (removed S s) ∧ Owned w3 base (removed S s) ∧ Keeps (Foot D M S) w w3 := by
  have hfs : ∀ t g, (removed S s).fs t = some g → t ≠ s ∧ S.fs t = some g := by
    intro t g hg
    simp only [removed, upd] at hg
    by_cases hts : t = s
    · rw [if_pos hts] at hg; cases hg
    · rw [if_neg hts] at hg; exact ⟨hts, hg⟩
  refine ⟨⟨?_, ?_, ?_, ?_, ?_, ?_⟩, ⟨?_, ?_⟩, hk.mono (fun b _ h => h.elim .inl (fun h => .inr (.inl h)))⟩
  · exact hD
  · have e1 : (removed S s).ptrs = upd S.ptrs s none := by
      funext t
      simp only [DS.ptrs, removed, upd]
      by_cases hts : t = s
      · rw [if_pos hts, if_pos hts]; rfl
      · rw [if_neg hts, if_neg hts]
    rw [e1]; exact hm
  · intro t g hg
    obtain ⟨_, hg⟩ := hfs t g hg
    rw [hk.block g.blk (hd.blk_lt hg) (fun h => h.elim (hd.blk_ne_D hg) (hd.blk_ne_M hg))]
    exact hd.file t g hg
  · intro t g hg; exact hd.syn t g (hfs t g hg).2
  · exact ⟨hd.lo.1, hd.lo.2.1, fun t g hg => hd.lo.2.2 t g (hfs t g hg).2⟩
  · intro t u g g' hg hg' e; exact hd.inj t u g g' (hfs t g hg).2 (hfs u g' hg').2 e
  · intro t g hg
    obtain ⟨_, hg⟩ := hfs t g hg
    refine ownsRow_same (ho.row t g hg) (fun k hkk => ?_)
    have rg := hd.row_ne ho hg hkk
    exact hk.block k (ho.lt hg hkk) (fun h => h.elim rg.1 rg.2.1)
  · intro t u g g' k hg hg' h1 h2; exact ho.apart t u g g' k (hfs t g hg).2 (hfs u g' hg').2 h1 h2

/-- What Remove of a file that is there comes to. -/
def RemIs (w : World) (base D M : Nat) (S : DS) (s : ByteArray) (w' : World) : Prop :=
  DiskIs w' base D M (removed S s) ∧ Owned w' base (removed S s) ∧ Keeps (Foot D M S) w w'

theorem step23 : ∀ caps W, (callFunc 23 caps).run Try.prog W = .ok (.enter 23 caps) W := fun caps W => by kernel_rfl

set_option maxHeartbeats 800000 in
theorem remove_some (base D M : Nat) (S : DS) (s : ByteArray) (f : DF) (w : World) (hd : DiskIs w base D M S) (ho : Owned w base S) (hs : Named s) (hf : S.fs s = some f) (hoff : S.off = false) (hops : S.ops ≤ 1000000) (hat : (S.ops : Int) ≠ S.cutAt) :
    Calls Try.prog 11 #[.pointer (some ⟨D, 0, none⟩), .string s] w fun e w' => e = .returned (.int .i64 0) ∧ RemIs w base D M S s w' := by
  have hD := hd.disk
  rw [hoff] at hD
  have hDlt := hd.D_lt
  have hMlt := hd.map.lt
  have hMD := hd.M_ne_D
  have hs1 : (w.alloc (.cells #[.pointer (some ⟨D, 0, none⟩)] 24)).heap.size = w.heap.size + 1 := by simp
  have hs2 : ((w.alloc (.cells #[.pointer (some ⟨D, 0, none⟩)] 24)).alloc (.cells #[.string s] 9)).heap.size = w.heap.size + 1 + 1 := by simp
  have old : ∀ b, b < w.heap.size → (((w.alloc (.cells #[.pointer (some ⟨D, 0, none⟩)] 24)).alloc (.cells #[.string s] 9)).alloc (.cells #[.string s] 9)).heap[b]? = w.heap[b]? := fun b hb => by
    rw [Below.heap_alloc _ _ _ (by omega), Below.heap_alloc _ _ _ (by omega), Below.heap_alloc _ _ _ hb]
  have hN1 : (((w.alloc (.cells #[.pointer (some ⟨D, 0, none⟩)] 24)).alloc (.cells #[.string s] 9)).alloc (.cells #[.string s] 9)).heap[w.heap.size]? = some (.cells #[.pointer (some ⟨D, 0, none⟩)] 24 (0, 0)) := by
    rw [Below.heap_alloc _ _ _ (by omega), Below.heap_alloc _ _ _ (by omega)]; exact (MapKept.heap_alloc _ _).1
  have hN2 : (((w.alloc (.cells #[.pointer (some ⟨D, 0, none⟩)] 24)).alloc (.cells #[.string s] 9)).alloc (.cells #[.string s] 9)).heap[w.heap.size + 1]? = some (.cells #[.string s] 9 (0, 0)) := by
    rw [Below.heap_alloc _ _ _ (by omega), ← hs1]; exact (MapKept.heap_alloc _ _).1
  have hN3 : (((w.alloc (.cells #[.pointer (some ⟨D, 0, none⟩)] 24)).alloc (.cells #[.string s] 9)).alloc (.cells #[.string s] 9)).heap[w.heap.size + 1 + 1]? = some (.cells #[.string s] 9 (0, 0)) := by
    rw [← hs2]; exact (MapKept.heap_alloc _ _).1
  have hK0 : Keeps (fun b => b = D ∨ b = M) w (((w.alloc (.cells #[.pointer (some ⟨D, 0, none⟩)] 24)).alloc (.cells #[.string s] 9)).alloc (.cells #[.string s] 9)) := ((Keeps.alloc _ _ _).trans (Keeps.alloc _ _ _)).trans (Keeps.alloc _ _ _)
  have hpf : S.ptrs s = some (.pointer (some ⟨f.blk, 0, none⟩)) := by simp [DS.ptrs, hf, DF.ptr]
  generalize hw0 : ((w.alloc (.cells #[.pointer (some ⟨D, 0, none⟩)] 24)).alloc (.cells #[.string s] 9)).alloc (.cells #[.string s] 9) = w0 at old hN1 hN2 hN3 hK0
  have hD0 := (old D hDlt).trans hD
  have cN : w0.cell? ⟨w.heap.size + 1 + 1, 0, none⟩ = some (.string s) := by simp [World.cell?, hN3]
  have c1 : w0.cell? ⟨w.heap.size, 0, none⟩ = some (.pointer (some ⟨D, 0, none⟩)) := by simp [World.cell?, hN1]
  have hm0 : HasMap w0 M S.n S.ptrs := hd.map.kept (old M hMlt)
  -- what the closure finds
  have hdo : ∀ q q', Calls Try.prog 23 #[.pointer (some ⟨w.heap.size, 0, none⟩), .pointer (some ⟨w.heap.size + 1, 0, none⟩)] (((w0.drewN q).setCell ⟨D, 2, none⟩ (.int .i64 (S.ops + 1))).drewN q') fun e w' => e = .returned (.tuple #[]) ∧ RemIs w base D M S s w' := by
    intro q q'
    have hset : ∀ b : Nat, b ≠ D → (((w0.drewN q).setCell ⟨D, 2, none⟩ (.int .i64 (S.ops + 1))).drewN q').heap[b]? = w0.heap[b]? := fun b hb => by
      rw [heap_drewN, Below.heap_setCell _ _ _ _ hb, heap_drewN]
    have hDs : (((w0.drewN q).setCell ⟨D, 2, none⟩ (.int .i64 (S.ops + 1))).drewN q').heap[D]? = some (.cells #[.map (some M), .bool false, .int .i64 (S.ops + 1), .int .i64 S.cutAt, .int .i64 S.part] 49 (0, 0)) := by
      rw [heap_drewN, heap_setCell_at (by rw [heap_drewN]; exact hD0)]; simp
    have hms : HasMap (((w0.drewN q).setCell ⟨D, 2, none⟩ (.int .i64 (S.ops + 1))).drewN q') M S.n S.ptrs := hm0.kept (hset M hMD)
    refine (remove_step w.heap.size (w.heap.size + 1) D M S.n _ _ _ _ s S.ptrs _ ((hset _ (by omega)).trans hN1) ((hset _ (by omega)).trans hN2) hDs hms).mono ?_
    rintro e w' ⟨he, r1, r2, r3⟩
    refine ⟨he, ?_⟩
    have hk3 : Keeps (fun b => b = D ∨ b = M) w w' :=
      (((hK0.trans (Keeps.drewN _ _ _)).trans (Keeps.setCell _ _ _ (fun _ => .inl rfl))).trans (Keeps.drewN _ _ _)).trans (Keeps.grown r2 (fun k e _ => by cases e; exact .inr rfl))
    have hD3 := (r2.block D (Array.getElem?_eq_some_iff.1 hDs).1 (by simp; omega)).trans hDs
    rw [← hoff] at hD3
    have hc : delCount (S.ptrs s) S.n = S.n - 1 := by simp [delCount, hpf]
    rw [hc] at r1
    exact remove_fin hd ho hk3 hD3 r1
  have HDO := Lib.hid hdo
  have HD0 := Lib.hid hD0
  have HS := Lib.hid hs
  have HN := Lib.hid cN
  have HM0 := Lib.hid hm0
  have HPF := Lib.hid hpf
  have HAT := Lib.hid hat
  have HW0 := Lib.hid hw0
  clear hdo hD0 hs cN hm0 hpf hat hw0 hN1 hN2 hN3 hD old hs1 hs2 hoff hd ho hf hK0
  go_enter Try.func11, Try.ntmps11
  go_wp2_with (first
    | (go_at_call 19; rw [HW0.out]; refine (refused_there D M _ _ _ _ (w.heap.size + 1 + 1) 0 1 1 (fun _ => s) S.ptrs _ _ HD0.out (by omega) (by omega) (fun _ _ => HS.out) (fun i hi => ?_) HM0.out HPF.out).mono ?_; (obtain rfl : i = 0 := by omega); exact HN.out; rintro e w' ⟨rfl, q, rfl⟩)
    | (go_at_call 20; refine (done_goes D _ _ _ S.ops S.cutAt 23 _ (fun w3 => RemIs w base D M S s w3) _ (by rw [heap_drewN]; exact HD0.out) hops HAT.out (step23 _) (fun q' => HDO.out _ q')).mono ?_; rintro e w' ⟨rfl, hw3⟩; have H3 := Lib.hid hw3; clear hw3))
  go_ret
  exact ⟨rfl, H3.out⟩

end Go.Proofs.Ytigbodokmkpohaa
