/- Rename's own step; calls on a file that is not there. -/
import Derived.Test.YtigbodokmkpohaaY
namespace Go.Proofs.Ytigbodokmkpohaa
open Go.RowKit

/-- How many entries there are behind a renaming. -/
def renCount (v : Option Value) (n : Nat) : Nat := if v.isSome then n - 1 else n - 1 + 1

theorem cell_grown {w V w' : World} {m b : Nat} {v : Value} {e : Nat} {z : Nat × Nat} {cs : Array Value} (hV : V.heap = w.heap) (h : w.heap[b]? = some (.cells (#[v] ++ cs) e z)) (hg : V.grownBy w' (some m)) (hb : b ≠ m) : w'.cell? ⟨b, 0, none⟩ = some v := by
  rw [← hV] at h
  have := (hg.block b (Array.getElem?_eq_some_iff.1 h).1 (fun e => hb (Option.some.inj e))).trans h
  simp only [World.cell?, this]
  rw [Array.getElem?_append_left (by simp)]
  rfl

set_option maxHeartbeats 800000 in
theorem rename_step (B1 B2 B3 D M n : Nat) (x1 x2 x3 x4 : Value) (s t : ByteArray) (a : Addr) (f : ByteArray → Option Value) (w : World) (h1 : w.heap[B1]? = some (.cells #[.pointer (some ⟨D, 0, none⟩)] 24 (0, 0))) (h2 : w.heap[B2]? = some (.cells #[.string s] 9 (0, 0))) (h3 : w.heap[B3]? = some (.cells #[.string t] 9 (0, 0)))
    (hD : w.heap[D]? = some (.cells #[.map (some M), x1, x2, x3, x4] 49 (0, 0))) (hm : HasMap w M n f) (hf : f s = some (.pointer (some a))) (m1 : B1 ≠ M) (m2 : B2 ≠ M) (m3 : B3 ≠ M) (mD : D ≠ M) :
    Calls Try.prog 33 #[.pointer (some ⟨B1, 0, none⟩), .pointer (some ⟨B2, 0, none⟩), .pointer (some ⟨B3, 0, none⟩)] w fun e w' => e = .returned (.tuple #[]) ∧
      HasMap w' M (renCount (upd f s none t) n) (upd (upd f s none) t (some (.pointer (some a)))) ∧ w.grownBy w' (some M) ∧ w'.heap.size = w.heap.size := by
  have c1 : w.cell? ⟨B1, 0, none⟩ = some (.pointer (some ⟨D, 0, none⟩)) := by simp [World.cell?, h1]
  have c2 : w.cell? ⟨B2, 0, none⟩ = some (.string s) := by simp [World.cell?, h2]
  have c3 : w.cell? ⟨D, 0, none⟩ = some (.map (some M)) := by simp [World.cell?, hD]
  have hl : ∀ q, (Instr.lookup 47 (.map (some M)) (.string s) false).run Try.prog (w.drewN q) = .ok (.pointer (some a)) (w.drewN q) := fun q => by
    have := (HasMap.kept (w' := w.drewN q) hm (by simp)).look (P := Try.prog) (t := 47) (k := 9) (e := 51) rfl rfl (zero51 _) s
    rw [hf] at this; exact this
  have hn : delCount (f s) n = n - 1 := by simp [delCount, hf]
  have key : ∀ (V w2 : World), V.heap = w.heap → V.grownBy w2 (some M) → w2.cell? ⟨B1, 0, none⟩ = some (.pointer (some ⟨D, 0, none⟩)) ∧ w2.cell? ⟨B3, 0, none⟩ = some (.string t) ∧ w2.cell? ⟨D, 0, none⟩ = some (.map (some M)) := fun V w2 e hg =>
    ⟨cell_grown (cs := #[]) e h1 hg m1, cell_grown (cs := #[]) e h3 hg m3, cell_grown (cs := #[x1, x2, x3, x4]) e hD hg mD⟩
  have HK := Lib.hid key
  have HM := Lib.hid hm
  have HN := Lib.hid hn
  clear h1 h2 h3 hD hm hf key hn
  go_enter Try.func33, Try.ntmps33
  go_wp2_with fail
  go_quiet (fail)
  go_wp2_with fail
  have v1 : (w.drewN nq).cell? ⟨B1, 0, none⟩ = some (.pointer (some ⟨D, 0, none⟩)) := by simpa using c1
  have v2 : (w.drewN nq).cell? ⟨B2, 0, none⟩ = some (.string s) := by simpa using c2
  have v3 : (w.drewN nq).cell? ⟨D, 0, none⟩ = some (.map (some M)) := by simpa using c3
  obtain ⟨V, hV⟩ : ∃ V, V = w.drewN nq := ⟨_, rfl⟩
  rw [← hV] at v1 v2 v3
  rw [← hV]
  have HV := Lib.hid hV
  clear hV c1 c2 c3
  go_still_tail 5, (by kernel_rfl)
  change wpList _ _ _ _ _ V.drew
  go_wp2_with (at_delete; refine wpList_del _ rfl _ _ 47 9 rfl 51 Try.underlying47 Try.underlying9 M n f rfl (show HasMap V.drew M n f from HasMap.kept HM.out (by rw [HV.out]; simp)) s rfl ?_; intro w2 hm2 hg2 hs2; have H2 := Lib.hid hm2; have HG := Lib.hid hg2; have HS := Lib.hid hs2; obtain ⟨d1, d2, d3⟩ := HK.out _ _ (show V.drew.heap = w.heap by rw [HV.out]; simp) hg2; clear v1 v2 v3 hm2 hg2 hs2)
  go_still_tail 6, (by kernel_rfl)
  change wpList _ _ _ _ _ w2.drew
  go_wp2_with (at_mapUpdate; refine wpList_put _ rfl _ _ _ 47 rfl 9 51 Try.underlying47 Try.underlying9 M (delCount (f s) n) (upd f s none) rfl (show HasMap w2.drew M _ _ from HasMap.kept H2.out rfl) t (.pointer (some a)) rfl rfl ?_; intro w3 hm3 hg3 hs3; have H3 := Lib.hid hm3; have HG3 := Lib.hid hg3; have HS3 := Lib.hid hs3; clear hm3 hg3 hs3)
  go_end0
  have h3 := H3.out
  rw [HN.out] at h3
  have g2 := HG.out
  rw [HV.out] at g2
  have g3 := HG3.out
  exact ⟨rfl, h3, ⟨g3.os.trans g2.os, g3.tape.trans g2.tape, g3.output.trans g2.output, Nat.le_trans g2.size g3.size, fun k hk hne => (g3.block k (Nat.lt_of_lt_of_le hk g2.size) hne).trans (g2.block k hk hne)⟩, HS3.out.trans (HS.out.trans (by rw [HV.out]; rfl))⟩

def renamed (S : DS) (s t : ByteArray) (f : DF) : DS := { S with ops := S.ops + 1, n := renCount (upd S.ptrs s none t) S.n, fs := upd (upd S.fs s none) t (some f) }

theorem rename_fin {w w3 : World} {base D M : Nat} {S : DS} {s t : ByteArray} {f : DF} (hd : DiskIs w base D M S) (ho : Owned w base S) (hf : S.fs s = some f)
    (hk : Keeps (fun b => b = D ∨ b = M) w w3) (hD : w3.heap[D]? = some (.cells #[.map (some M), .bool S.off, .int .i64 (S.ops + 1), .int .i64 S.cutAt, .int .i64 S.part] 49 (0, 0)))
    (hm : HasMap w3 M (renCount (upd S.ptrs s none t) S.n) (upd (upd S.ptrs s none) t (some (.pointer (some ⟨f.blk, 0, none⟩))))) :
    DiskIs w3 base D M (renamed S s t f) ∧ Owned w3 base (renamed S s t f) ∧ Keeps (Foot D M S) w w3 := by
  have hfs : ∀ x g, (renamed S s t f).fs x = some g → ∃ x0, S.fs x0 = some g ∧ ((x = t ∧ x0 = s) ∨ (x ≠ t ∧ x ≠ s ∧ x0 = x)) := by
    intro x g hg
    simp only [renamed, upd] at hg
    by_cases hxt : x = t
    · rw [if_pos hxt] at hg; cases hg; exact ⟨s, hf, .inl ⟨hxt, rfl⟩⟩
    · rw [if_neg hxt] at hg
      by_cases hxs : x = s
      · rw [if_pos hxs] at hg; cases hg
      · rw [if_neg hxs] at hg; exact ⟨x, hg, .inr ⟨hxt, hxs, rfl⟩⟩
  have one : ∀ x y x0 y0, ((x = t ∧ x0 = s) ∨ (x ≠ t ∧ x ≠ s ∧ x0 = x)) → ((y = t ∧ y0 = s) ∨ (y ≠ t ∧ y ≠ s ∧ y0 = y)) → x0 = y0 → x = y := by
    rintro x y x0 y0 (⟨rfl, rfl⟩ | ⟨a, b, rfl⟩) (⟨rfl, rfl⟩ | ⟨c, d, rfl⟩) e
    · rfl
    · exact absurd e.symm d
    · exact absurd e b
    · exact e
  refine ⟨⟨?_, ?_, ?_, ?_, ?_, ?_⟩, ⟨?_, ?_⟩, hk.mono (fun b _ h => h.elim .inl (fun h => .inr (.inl h)))⟩
  · exact hD
  · have e1 : (renamed S s t f).ptrs = upd (upd S.ptrs s none) t (some (.pointer (some ⟨f.blk, 0, none⟩))) := by
      funext x
      simp only [DS.ptrs, renamed, upd]
      by_cases hxt : x = t
      · rw [if_pos hxt, if_pos hxt]; rfl
      · rw [if_neg hxt, if_neg hxt]
        by_cases hxs : x = s
        · rw [if_pos hxs, if_pos hxs]; rfl
        · rw [if_neg hxs, if_neg hxs]
    rw [e1]; exact hm
  · intro x g hg
    obtain ⟨x0, h0, _⟩ := hfs x g hg
    rw [hk.block g.blk (hd.blk_lt h0) (fun h => h.elim (hd.blk_ne_D h0) (hd.blk_ne_M h0))]
    exact hd.file x0 g h0
  · intro x g hg
    obtain ⟨x0, h0, _⟩ := hfs x g hg
    exact hd.syn x0 g h0
  · refine ⟨hd.lo.1, hd.lo.2.1, fun x g hg => ?_⟩
    obtain ⟨x0, h0, _⟩ := hfs x g hg
    exact hd.lo.2.2 x0 g h0
  · intro x y g g' hg hg' e
    obtain ⟨x0, h0, hx⟩ := hfs x g hg
    obtain ⟨y0, h1, hy⟩ := hfs y g' hg'
    exact one x y x0 y0 hx hy (hd.inj x0 y0 g g' h0 h1 e)
  · intro x g hg
    obtain ⟨x0, h0, _⟩ := hfs x g hg
    refine ownsRow_same (ho.row x0 g h0) (fun k hkk => ?_)
    have rg := hd.row_ne ho h0 hkk
    exact hk.block k (ho.lt h0 hkk) (fun h => h.elim rg.1 rg.2.1)
  · intro x y g g' k hg hg' h1 h2
    obtain ⟨x0, e0, hx⟩ := hfs x g hg
    obtain ⟨y0, e1, hy⟩ := hfs y g' hg'
    exact one x y x0 y0 hx hy (ho.apart x0 y0 g g' k e0 e1 h1 h2)

def RenIs (w : World) (base D M : Nat) (S : DS) (s t : ByteArray) (f : DF) (w' : World) : Prop :=
  DiskIs w' base D M (renamed S s t f) ∧ Owned w' base (renamed S s t f) ∧ Keeps (Foot D M S) w w'

theorem step33 : ∀ caps W, (callFunc 33 caps).run Try.prog W = .ok (.enter 33 caps) W := fun caps W => by kernel_rfl

set_option maxHeartbeats 800000 in
theorem rename_some (base D M : Nat) (S : DS) (s t : ByteArray) (f : DF) (w : World) (hd : DiskIs w base D M S) (ho : Owned w base S) (hs : Named s) (ht : Named t) (hf : S.fs s = some f) (hoff : S.off = false) (hops : S.ops ≤ 1000000) (hat : (S.ops : Int) ≠ S.cutAt) :
    Calls Try.prog 27 #[.pointer (some ⟨D, 0, none⟩), .string s, .string t] w fun e w' => e = .returned (.int .i64 0) ∧ RenIs w base D M S s t f w' := by
  have hD := hd.disk
  rw [hoff] at hD
  have hDlt := hd.D_lt
  have hMlt := hd.map.lt
  have hMD := hd.M_ne_D
  have z1 : (w.alloc (.cells #[.pointer (some ⟨D, 0, none⟩)] 24)).heap.size = w.heap.size + 1 := by simp
  have z2 : ((w.alloc (.cells #[.pointer (some ⟨D, 0, none⟩)] 24)).alloc (.cells #[.string s] 9)).heap.size = w.heap.size + 1 + 1 := by simp
  have z3 : (((w.alloc (.cells #[.pointer (some ⟨D, 0, none⟩)] 24)).alloc (.cells #[.string s] 9)).alloc (.cells #[.string t] 9)).heap.size = w.heap.size + 1 + 1 + 1 := by simp
  have old : ∀ b, b < w.heap.size → ((((w.alloc (.cells #[.pointer (some ⟨D, 0, none⟩)] 24)).alloc (.cells #[.string s] 9)).alloc (.cells #[.string t] 9)).alloc (.cells #[.string s, .string t] 9)).heap[b]? = w.heap[b]? := fun b hb => by
    rw [Below.heap_alloc _ _ _ (by omega), Below.heap_alloc _ _ _ (by omega), Below.heap_alloc _ _ _ (by omega), Below.heap_alloc _ _ _ hb]
  have hN1 : ((((w.alloc (.cells #[.pointer (some ⟨D, 0, none⟩)] 24)).alloc (.cells #[.string s] 9)).alloc (.cells #[.string t] 9)).alloc (.cells #[.string s, .string t] 9)).heap[w.heap.size]? = some (.cells #[.pointer (some ⟨D, 0, none⟩)] 24 (0, 0)) := by
    rw [Below.heap_alloc _ _ _ (by omega), Below.heap_alloc _ _ _ (by omega), Below.heap_alloc _ _ _ (by omega)]; exact (MapKept.heap_alloc _ _).1
  have hN2 : ((((w.alloc (.cells #[.pointer (some ⟨D, 0, none⟩)] 24)).alloc (.cells #[.string s] 9)).alloc (.cells #[.string t] 9)).alloc (.cells #[.string s, .string t] 9)).heap[w.heap.size + 1]? = some (.cells #[.string s] 9 (0, 0)) := by
    rw [Below.heap_alloc _ _ _ (by omega), Below.heap_alloc _ _ _ (by omega), ← z1]; exact (MapKept.heap_alloc _ _).1
  have hN3 : ((((w.alloc (.cells #[.pointer (some ⟨D, 0, none⟩)] 24)).alloc (.cells #[.string s] 9)).alloc (.cells #[.string t] 9)).alloc (.cells #[.string s, .string t] 9)).heap[w.heap.size + 1 + 1]? = some (.cells #[.string t] 9 (0, 0)) := by
    rw [Below.heap_alloc _ _ _ (by omega), ← z2]; exact (MapKept.heap_alloc _ _).1
  have hN4 : ((((w.alloc (.cells #[.pointer (some ⟨D, 0, none⟩)] 24)).alloc (.cells #[.string s] 9)).alloc (.cells #[.string t] 9)).alloc (.cells #[.string s, .string t] 9)).heap[w.heap.size + 1 + 1 + 1]? = some (.cells #[.string s, .string t] 9 (0, 0)) := by
    rw [← z3]; exact (MapKept.heap_alloc _ _).1
  have hK0 : Keeps (fun b => b = D ∨ b = M) w ((((w.alloc (.cells #[.pointer (some ⟨D, 0, none⟩)] 24)).alloc (.cells #[.string s] 9)).alloc (.cells #[.string t] 9)).alloc (.cells #[.string s, .string t] 9)) := (((Keeps.alloc _ _ _).trans (Keeps.alloc _ _ _)).trans (Keeps.alloc _ _ _)).trans (Keeps.alloc _ _ _)
  have hpf : S.ptrs s = some (.pointer (some ⟨f.blk, 0, none⟩)) := by simp [DS.ptrs, hf, DF.ptr]
  generalize hw0 : ((((w.alloc (.cells #[.pointer (some ⟨D, 0, none⟩)] 24)).alloc (.cells #[.string s] 9)).alloc (.cells #[.string t] 9)).alloc (.cells #[.string s, .string t] 9)) = w0 at old hN1 hN2 hN3 hN4 hK0
  have hD0 := (old D hDlt).trans hD
  have cN : ∀ i, i < 2 → w0.cell? ⟨w.heap.size + 1 + 1 + 1, 0 + i, none⟩ = some (.string ((fun i => if i = 0 then s else t) i)) := by
    intro i hi
    match i, hi with
    | 0, _ => simp [World.cell?, hN4]
    | 1, _ => simp [World.cell?, hN4]
  have cT : w0.cell? ⟨w.heap.size + 1 + 1, 0, none⟩ = some (.string t) := by simp [World.cell?, hN3]
  have cS : w0.cell? ⟨w.heap.size + 1, 0, none⟩ = some (.string s) := by simp [World.cell?, hN2]
  have c1 : w0.cell? ⟨w.heap.size, 0, none⟩ = some (.pointer (some ⟨D, 0, none⟩)) := by simp [World.cell?, hN1]
  have hm0 : HasMap w0 M S.n S.ptrs := hd.map.kept (old M hMlt)
  -- what the closure finds
  have hdo : ∀ q q', Calls Try.prog 33 #[.pointer (some ⟨w.heap.size, 0, none⟩), .pointer (some ⟨w.heap.size + 1, 0, none⟩), .pointer (some ⟨w.heap.size + 1 + 1, 0, none⟩)] (((w0.drewN q).setCell ⟨D, 2, none⟩ (.int .i64 (S.ops + 1))).drewN q') fun e w' => e = .returned (.tuple #[]) ∧ RenIs w base D M S s t f w' := by
    intro q q'
    have hset : ∀ b : Nat, b ≠ D → (((w0.drewN q).setCell ⟨D, 2, none⟩ (.int .i64 (S.ops + 1))).drewN q').heap[b]? = w0.heap[b]? := fun b hb => by
      rw [heap_drewN, Below.heap_setCell _ _ _ _ hb, heap_drewN]
    have hDs : (((w0.drewN q).setCell ⟨D, 2, none⟩ (.int .i64 (S.ops + 1))).drewN q').heap[D]? = some (.cells #[.map (some M), .bool false, .int .i64 (S.ops + 1), .int .i64 S.cutAt, .int .i64 S.part] 49 (0, 0)) := by
      rw [heap_drewN, heap_setCell_at (by rw [heap_drewN]; exact hD0)]; simp
    have hms : HasMap (((w0.drewN q).setCell ⟨D, 2, none⟩ (.int .i64 (S.ops + 1))).drewN q') M S.n S.ptrs := hm0.kept (hset M hMD)
    refine (rename_step w.heap.size (w.heap.size + 1) (w.heap.size + 1 + 1) D M S.n _ _ _ _ s t ⟨f.blk, 0, none⟩ S.ptrs _ ((hset _ (by omega)).trans hN1) ((hset _ (by omega)).trans hN2) ((hset _ (by omega)).trans hN3) hDs hms hpf (by omega) (by omega) (by omega) hMD.symm).mono ?_
    rintro e w' ⟨he, r1, r2, r3⟩
    refine ⟨he, ?_⟩
    have hk3 : Keeps (fun b => b = D ∨ b = M) w w' :=
      (((hK0.trans (Keeps.drewN _ _ _)).trans (Keeps.setCell _ _ _ (fun _ => .inl rfl))).trans (Keeps.drewN _ _ _)).trans (Keeps.grown r2 (fun k e _ => by cases e; exact .inr rfl))
    have hD3 := (r2.block D (Array.getElem?_eq_some_iff.1 hDs).1 (by simp; omega)).trans hDs
    rw [← hoff] at hD3
    exact rename_fin hd ho hf hk3 hD3 r1
  have HDO := Lib.hid hdo
  have HD0 := Lib.hid hD0
  have HS := Lib.hid hs
  have HN := Lib.hid cN
  have HT := Lib.hid ht
  have HM0 := Lib.hid hm0
  have HPF := Lib.hid hpf
  have HAT := Lib.hid hat
  have HW0 := Lib.hid hw0
  clear hdo hD0 hs cN ht hN4 z1 z2 z3 hm0 hpf hat hw0 hN1 hN2 hN3 hD old hoff hd ho hf hK0
  go_enter Try.func27, Try.ntmps27
  go_wp2_with (first
    | (go_at_call 19; rw [HW0.out]; refine (refused_there D M _ _ _ _ (w.heap.size + 1 + 1 + 1) 0 2 2 (fun i => if i = 0 then s else t) S.ptrs _ _ HD0.out (by omega) (by omega) (fun i _ => (by by_cases h0 : i = 0; (rw [if_pos h0]; exact HS.out); (rw [if_neg h0]; exact HT.out))) HN.out HM0.out HPF.out).mono ?_; rintro e w' ⟨rfl, q, rfl⟩)
    | (go_at_call 20; refine (done_goes D _ _ _ S.ops S.cutAt 33 _ (fun w3 => RenIs w base D M S s t f w3) _ (by rw [heap_drewN]; exact HD0.out) hops HAT.out (step33 _) (fun q' => HDO.out _ q')).mono ?_; rintro e w' ⟨rfl, hw3⟩; have H3 := Lib.hid hw3; clear hw3))
  go_ret
  exact ⟨rfl, H3.out⟩

set_option maxHeartbeats 800000 in
theorem rename_cut (base D M : Nat) (S : DS) (s t : ByteArray) (f : DF) (w : World) (hd : DiskIs w base D M S) (ho : Owned w base S) (hs : Named s) (ht : Named t) (hf : S.fs s = some f) (hoff : S.off = false) (hops : S.ops ≤ 1000000) (hat : S.cutAt = S.ops) (hp : -9223372036854775808 ≤ S.part ∧ S.part ≤ 9223372036854775807) (hl0 : ∀ s f, S.fs s = some f → f.bytes.length ≤ 140737488355328) :
    Calls Try.prog 27 #[.pointer (some ⟨D, 0, none⟩), .string s, .string t] w fun e w' => e = .returned (.int .i64 122) ∧ Dead w D M S w' := by
  have hD := hd.disk
  rw [hoff, hat] at hD
  have hDlt := hd.D_lt
  have hMlt := hd.map.lt
  have hMD := hd.M_ne_D
  have z1 : (w.alloc (.cells #[.pointer (some ⟨D, 0, none⟩)] 24)).heap.size = w.heap.size + 1 := by simp
  have z2 : ((w.alloc (.cells #[.pointer (some ⟨D, 0, none⟩)] 24)).alloc (.cells #[.string s] 9)).heap.size = w.heap.size + 1 + 1 := by simp
  have z3 : (((w.alloc (.cells #[.pointer (some ⟨D, 0, none⟩)] 24)).alloc (.cells #[.string s] 9)).alloc (.cells #[.string t] 9)).heap.size = w.heap.size + 1 + 1 + 1 := by simp
  have old : ∀ b, b < w.heap.size → ((((w.alloc (.cells #[.pointer (some ⟨D, 0, none⟩)] 24)).alloc (.cells #[.string s] 9)).alloc (.cells #[.string t] 9)).alloc (.cells #[.string s, .string t] 9)).heap[b]? = w.heap[b]? := fun b hb => by
    rw [Below.heap_alloc _ _ _ (by omega), Below.heap_alloc _ _ _ (by omega), Below.heap_alloc _ _ _ (by omega), Below.heap_alloc _ _ _ hb]
  have hN1 : ((((w.alloc (.cells #[.pointer (some ⟨D, 0, none⟩)] 24)).alloc (.cells #[.string s] 9)).alloc (.cells #[.string t] 9)).alloc (.cells #[.string s, .string t] 9)).heap[w.heap.size]? = some (.cells #[.pointer (some ⟨D, 0, none⟩)] 24 (0, 0)) := by
    rw [Below.heap_alloc _ _ _ (by omega), Below.heap_alloc _ _ _ (by omega), Below.heap_alloc _ _ _ (by omega)]; exact (MapKept.heap_alloc _ _).1
  have hN2 : ((((w.alloc (.cells #[.pointer (some ⟨D, 0, none⟩)] 24)).alloc (.cells #[.string s] 9)).alloc (.cells #[.string t] 9)).alloc (.cells #[.string s, .string t] 9)).heap[w.heap.size + 1]? = some (.cells #[.string s] 9 (0, 0)) := by
    rw [Below.heap_alloc _ _ _ (by omega), Below.heap_alloc _ _ _ (by omega), ← z1]; exact (MapKept.heap_alloc _ _).1
  have hN3 : ((((w.alloc (.cells #[.pointer (some ⟨D, 0, none⟩)] 24)).alloc (.cells #[.string s] 9)).alloc (.cells #[.string t] 9)).alloc (.cells #[.string s, .string t] 9)).heap[w.heap.size + 1 + 1]? = some (.cells #[.string t] 9 (0, 0)) := by
    rw [Below.heap_alloc _ _ _ (by omega), ← z2]; exact (MapKept.heap_alloc _ _).1
  have hN4 : ((((w.alloc (.cells #[.pointer (some ⟨D, 0, none⟩)] 24)).alloc (.cells #[.string s] 9)).alloc (.cells #[.string t] 9)).alloc (.cells #[.string s, .string t] 9)).heap[w.heap.size + 1 + 1 + 1]? = some (.cells #[.string s, .string t] 9 (0, 0)) := by
    rw [← z3]; exact (MapKept.heap_alloc _ _).1
  have hK0 : Keeps (fun b => b = D) w ((((w.alloc (.cells #[.pointer (some ⟨D, 0, none⟩)] 24)).alloc (.cells #[.string s] 9)).alloc (.cells #[.string t] 9)).alloc (.cells #[.string s, .string t] 9)) := (((Keeps.alloc _ _ _).trans (Keeps.alloc _ _ _)).trans (Keeps.alloc _ _ _)).trans (Keeps.alloc _ _ _)
  have hpf : S.ptrs s = some (.pointer (some ⟨f.blk, 0, none⟩)) := by simp [DS.ptrs, hf, DF.ptr]
  generalize hw0 : ((((w.alloc (.cells #[.pointer (some ⟨D, 0, none⟩)] 24)).alloc (.cells #[.string s] 9)).alloc (.cells #[.string t] 9)).alloc (.cells #[.string s, .string t] 9)) = w0 at old hN1 hN2 hN3 hN4 hK0
  have hD0 := (old D hDlt).trans hD
  have cN : ∀ i, i < 2 → w0.cell? ⟨w.heap.size + 1 + 1 + 1, 0 + i, none⟩ = some (.string ((fun i => if i = 0 then s else t) i)) := by
    intro i hi
    match i, hi with
    | 0, _ => simp [World.cell?, hN4]
    | 1, _ => simp [World.cell?, hN4]
  have cT : w0.cell? ⟨w.heap.size + 1 + 1, 0, none⟩ = some (.string t) := by simp [World.cell?, hN3]
  have cS : w0.cell? ⟨w.heap.size + 1, 0, none⟩ = some (.string s) := by simp [World.cell?, hN2]
  have c1 : w0.cell? ⟨w.heap.size, 0, none⟩ = some (.pointer (some ⟨D, 0, none⟩)) := by simp [World.cell?, hN1]
  have hm0 : HasMap w0 M S.n S.ptrs := hd.map.kept (old M hMlt)
  -- what the closure finds
  have hdo : ∀ q q', Calls Try.prog 29 #[.pointer (some ⟨D, 0, none⟩), .int .i64 S.part] (((w0.drewN q).setCell ⟨D, 2, none⟩ (.int .i64 (S.ops + 1))).drewN q') fun e w' => e = .returned (.tuple #[]) ∧ Dead w D M S w' := by
    intro q q'
    have hset : ∀ b : Nat, b ≠ D → (((w0.drewN q).setCell ⟨D, 2, none⟩ (.int .i64 (S.ops + 1))).drewN q').heap[b]? = w0.heap[b]? := fun b hb => by
      rw [heap_drewN, Below.heap_setCell _ _ _ _ hb, heap_drewN]
    have hDs : (((w0.drewN q).setCell ⟨D, 2, none⟩ (.int .i64 (S.ops + 1))).drewN q').heap[D]? = some (.cells #[.map (some M), .bool false, .int .i64 (S.ops + 1), .int .i64 S.ops, .int .i64 S.part] 49 (0, 0)) := by
      rw [heap_drewN, heap_setCell_at (by rw [heap_drewN]; exact hD0)]; simp
    have hms : HasMap (((w0.drewN q).setCell ⟨D, 2, none⟩ (.int .i64 (S.ops + 1))).drewN q') M S.n S.ptrs := hm0.kept (hset M hMD)
    have hk1 : Keeps (fun b => b = D) w (((w0.drewN q).setCell ⟨D, 2, none⟩ (.int .i64 (S.ops + 1))).drewN q') := ((hK0.trans (Keeps.drewN _ _ _)).trans (Keeps.setCell (F := fun b => b = D) _ _ _ (fun _ => rfl))).trans (Keeps.drewN _ _ _)
    have hDt := hDs.trans (show _ = some (Obj.cells #[.map (some M), .bool S.off, .int .i64 (S.ops + 1), .int .i64 (S.cutAt), .int .i64 S.part] 49 (0, 0)) by rw [hoff, hat])
    obtain ⟨r1, r2, r3⟩ := tick_fin hd ho hk1 hDt
    exact dead_of (S' := ticked S) r3 r1 r2 rfl (fun _ _ h => h) hp hl0
  have HDO := Lib.hid hdo
  have HD0 := Lib.hid hD0
  have HS := Lib.hid hs
  have HN := Lib.hid cN
  have HT := Lib.hid ht
  have HM0 := Lib.hid hm0
  have HPF := Lib.hid hpf
  have HW0 := Lib.hid hw0
  clear hdo hD0 hs cN ht hN4 z1 z2 z3 hm0 hpf hat hw0 hN1 hN2 hN3 hD old hoff hd ho hf hK0
  go_enter Try.func27, Try.ntmps27
  go_wp2_with (first
    | (go_at_call 19; rw [HW0.out]; refine (refused_there D M _ _ _ _ (w.heap.size + 1 + 1 + 1) 0 2 2 (fun i => if i = 0 then s else t) S.ptrs _ _ HD0.out (by omega) (by omega) (fun i _ => (by by_cases h0 : i = 0; (rw [if_pos h0]; exact HS.out); (rw [if_neg h0]; exact HT.out))) HN.out HM0.out HPF.out).mono ?_; rintro e w' ⟨rfl, q, rfl⟩)
    | (go_at_call 20; refine (done_cuts D _ _ S.ops S.part 33 _ (fun w3 => Dead w D M S w3) _ (by rw [heap_drewN]; exact HD0.out) hops (fun q' => HDO.out _ q')).mono ?_; rintro e w' ⟨rfl, hw3⟩; have H3 := Lib.hid hw3; clear hw3))
  go_ret
  exact ⟨rfl, H3.out⟩

set_option maxHeartbeats 800000 in
theorem sync_none (base D M : Nat) (S : DS) (s : ByteArray) (w : World) (hd : DiskIs w base D M S) (hs : Named s) (hf : S.fs s = none) (hoff : S.off = false) :
    Calls Try.prog 16 #[.pointer (some ⟨D, 0, none⟩), .string s] w fun e w' => e = .returned (.int .i64 120) ∧ Keeps (fun _ => False) w w' := by
  have hD := hd.disk
  rw [hoff] at hD
  have hDlt := hd.D_lt
  have hMlt := hd.map.lt
  have old : ∀ b, b < w.heap.size → (w.alloc (.cells #[.string s] 9)).heap[b]? = w.heap[b]? := fun b hb => by
    rw [Below.heap_alloc _ _ _ (by omega)]
  have hN : (w.alloc (.cells #[.string s] 9)).heap[w.heap.size]? = some (.cells #[.string s] 9 (0, 0)) := by exact (MapKept.heap_alloc _ _).1
  have hK0 : Keeps (fun _ => False) w (w.alloc (.cells #[.string s] 9)) := (Keeps.alloc _ _ _)
  have hpf : S.ptrs s = none := by simp [DS.ptrs, hf]
  generalize hw0 : (w.alloc (.cells #[.string s] 9)) = w0 at old hN hK0
  have hD0 := (old D hDlt).trans hD
  have hm0 : HasMap w0 M S.n S.ptrs := hd.map.kept (old M hMlt)
  have cN : ∀ i, i < 1 → w0.cell? ⟨w.heap.size, 0 + i, none⟩ = some (.string ((fun _ => s) i)) := by
    intro i hi
    obtain rfl : i = 0 := by omega
    simp [World.cell?, hN]
  have HD0 := Lib.hid hD0
  have HS := Lib.hid hs
  have HN := Lib.hid cN
  have HM0 := Lib.hid hm0
  have HPF := Lib.hid hpf
  have HW0 := Lib.hid hw0
  have HK0 := Lib.hid hK0
  clear hD0 hs cN hm0 hpf hw0 hN hD old hoff hd hf hK0
  go_enter Try.func16, Try.ntmps16
  go_wp2_with (go_at_call 19; rw [HW0.out]; refine (refused_none D M _ _ _ _ w.heap.size 0 1 1 (fun _ => s) S.ptrs _ HD0.out (by omega) (by omega) (fun _ _ => HS.out) HN.out HM0.out HPF.out).mono ?_; rintro e w' ⟨rfl, q, rfl⟩)
  go_ret
  exact ⟨rfl, HK0.out.trans (Keeps.drewN _ _ _)⟩

set_option maxHeartbeats 800000 in
theorem remove_none (base D M : Nat) (S : DS) (s : ByteArray) (w : World) (hd : DiskIs w base D M S) (hs : Named s) (hf : S.fs s = none) (hoff : S.off = false) :
    Calls Try.prog 11 #[.pointer (some ⟨D, 0, none⟩), .string s] w fun e w' => e = .returned (.int .i64 120) ∧ Keeps (fun _ => False) w w' := by
  have hD := hd.disk
  rw [hoff] at hD
  have hDlt := hd.D_lt
  have hMlt := hd.map.lt
  have z0 : (w.alloc (.cells #[.pointer (some ⟨D, 0, none⟩)] 24)).heap.size = w.heap.size + 1 := by simp
  have z1 : ((w.alloc (.cells #[.pointer (some ⟨D, 0, none⟩)] 24)).alloc (.cells #[.string s] 9)).heap.size = w.heap.size + 1 + 1 := by simp
  have old : ∀ b, b < w.heap.size → (((w.alloc (.cells #[.pointer (some ⟨D, 0, none⟩)] 24)).alloc (.cells #[.string s] 9)).alloc (.cells #[.string s] 9)).heap[b]? = w.heap[b]? := fun b hb => by
    rw [Below.heap_alloc _ _ _ (by omega), Below.heap_alloc _ _ _ (by omega), Below.heap_alloc _ _ _ (by omega)]
  have hN : (((w.alloc (.cells #[.pointer (some ⟨D, 0, none⟩)] 24)).alloc (.cells #[.string s] 9)).alloc (.cells #[.string s] 9)).heap[w.heap.size + 1 + 1]? = some (.cells #[.string s] 9 (0, 0)) := by rw [← z1]; exact (MapKept.heap_alloc _ _).1
  have hK0 : Keeps (fun _ => False) w (((w.alloc (.cells #[.pointer (some ⟨D, 0, none⟩)] 24)).alloc (.cells #[.string s] 9)).alloc (.cells #[.string s] 9)) := (((Keeps.alloc _ _ _).trans (Keeps.alloc _ _ _)).trans (Keeps.alloc _ _ _))
  have hpf : S.ptrs s = none := by simp [DS.ptrs, hf]
  have c1 : (((w.alloc (.cells #[.pointer (some ⟨D, 0, none⟩)] 24)).alloc (.cells #[.string s] 9)).alloc (.cells #[.string s] 9)).cell? ⟨w.heap.size, 0, none⟩ = some (.pointer (some ⟨D, 0, none⟩)) := by
    have : (((w.alloc (.cells #[.pointer (some ⟨D, 0, none⟩)] 24)).alloc (.cells #[.string s] 9)).alloc (.cells #[.string s] 9)).heap[w.heap.size]? = some (.cells #[.pointer (some ⟨D, 0, none⟩)] 24 (0, 0)) := by rw [Below.heap_alloc _ _ _ (by omega), Below.heap_alloc _ _ _ (by omega)]; exact (MapKept.heap_alloc _ _).1
    simp only [World.cell?, this]; rfl
  generalize hw0 : (((w.alloc (.cells #[.pointer (some ⟨D, 0, none⟩)] 24)).alloc (.cells #[.string s] 9)).alloc (.cells #[.string s] 9)) = w0 at old hN hK0 c1
  have hD0 := (old D hDlt).trans hD
  have hm0 : HasMap w0 M S.n S.ptrs := hd.map.kept (old M hMlt)
  have cN : ∀ i, i < 1 → w0.cell? ⟨w.heap.size + 1 + 1, 0 + i, none⟩ = some (.string ((fun _ => s) i)) := by
    intro i hi
    obtain rfl : i = 0 := by omega
    simp [World.cell?, hN]
  have HD0 := Lib.hid hD0
  have HS := Lib.hid hs
  have HN := Lib.hid cN
  have HM0 := Lib.hid hm0
  have HPF := Lib.hid hpf
  have HW0 := Lib.hid hw0
  have HK0 := Lib.hid hK0
  clear hD0 hs cN hm0 hpf hw0 hN hD old hoff hd hf hK0 z0 z1
  go_enter Try.func11, Try.ntmps11
  go_wp2_with (go_at_call 19; rw [HW0.out]; refine (refused_none D M _ _ _ _ (w.heap.size + 1 + 1) 0 1 1 (fun _ => s) S.ptrs _ HD0.out (by omega) (by omega) (fun _ _ => HS.out) HN.out HM0.out HPF.out).mono ?_; rintro e w' ⟨rfl, q, rfl⟩)
  go_ret
  exact ⟨rfl, HK0.out.trans (Keeps.drewN _ _ _)⟩

set_option maxHeartbeats 800000 in
theorem rename_none (base D M : Nat) (S : DS) (s t : ByteArray) (w : World) (hd : DiskIs w base D M S) (hs : Named s) (ht : Named t) (hf : S.fs s = none) (hoff : S.off = false) :
    Calls Try.prog 27 #[.pointer (some ⟨D, 0, none⟩), .string s, .string t] w fun e w' => e = .returned (.int .i64 120) ∧ Keeps (fun _ => False) w w' := by
  have hD := hd.disk
  rw [hoff] at hD
  have hDlt := hd.D_lt
  have hMlt := hd.map.lt
  have z0 : (w.alloc (.cells #[.pointer (some ⟨D, 0, none⟩)] 24)).heap.size = w.heap.size + 1 := by simp
  have z1 : ((w.alloc (.cells #[.pointer (some ⟨D, 0, none⟩)] 24)).alloc (.cells #[.string s] 9)).heap.size = w.heap.size + 1 + 1 := by simp
  have z2 : (((w.alloc (.cells #[.pointer (some ⟨D, 0, none⟩)] 24)).alloc (.cells #[.string s] 9)).alloc (.cells #[.string t] 9)).heap.size = w.heap.size + 1 + 1 + 1 := by simp
  have old : ∀ b, b < w.heap.size → ((((w.alloc (.cells #[.pointer (some ⟨D, 0, none⟩)] 24)).alloc (.cells #[.string s] 9)).alloc (.cells #[.string t] 9)).alloc (.cells #[.string s, .string t] 9)).heap[b]? = w.heap[b]? := fun b hb => by
    rw [Below.heap_alloc _ _ _ (by omega), Below.heap_alloc _ _ _ (by omega), Below.heap_alloc _ _ _ (by omega), Below.heap_alloc _ _ _ (by omega)]
  have hN : ((((w.alloc (.cells #[.pointer (some ⟨D, 0, none⟩)] 24)).alloc (.cells #[.string s] 9)).alloc (.cells #[.string t] 9)).alloc (.cells #[.string s, .string t] 9)).heap[w.heap.size + 1 + 1 + 1]? = some (.cells #[.string s, .string t] 9 (0, 0)) := by rw [← z2]; exact (MapKept.heap_alloc _ _).1
  have hK0 : Keeps (fun _ => False) w ((((w.alloc (.cells #[.pointer (some ⟨D, 0, none⟩)] 24)).alloc (.cells #[.string s] 9)).alloc (.cells #[.string t] 9)).alloc (.cells #[.string s, .string t] 9)) := ((((Keeps.alloc _ _ _).trans (Keeps.alloc _ _ _)).trans (Keeps.alloc _ _ _)).trans (Keeps.alloc _ _ _))
  have hpf : S.ptrs s = none := by simp [DS.ptrs, hf]
  have c1 : ((((w.alloc (.cells #[.pointer (some ⟨D, 0, none⟩)] 24)).alloc (.cells #[.string s] 9)).alloc (.cells #[.string t] 9)).alloc (.cells #[.string s, .string t] 9)).cell? ⟨w.heap.size, 0, none⟩ = some (.pointer (some ⟨D, 0, none⟩)) := by
    have : ((((w.alloc (.cells #[.pointer (some ⟨D, 0, none⟩)] 24)).alloc (.cells #[.string s] 9)).alloc (.cells #[.string t] 9)).alloc (.cells #[.string s, .string t] 9)).heap[w.heap.size]? = some (.cells #[.pointer (some ⟨D, 0, none⟩)] 24 (0, 0)) := by rw [Below.heap_alloc _ _ _ (by omega), Below.heap_alloc _ _ _ (by omega), Below.heap_alloc _ _ _ (by omega)]; exact (MapKept.heap_alloc _ _).1
    simp only [World.cell?, this]; rfl
  have h2 : ((((w.alloc (.cells #[.pointer (some ⟨D, 0, none⟩)] 24)).alloc (.cells #[.string s] 9)).alloc (.cells #[.string t] 9)).alloc (.cells #[.string s, .string t] 9)).heap[w.heap.size + 1]? = some (.cells #[.string s] 9 (0, 0)) := by rw [Below.heap_alloc _ _ _ (by omega), Below.heap_alloc _ _ _ (by omega), ← z0]; exact (MapKept.heap_alloc _ _).1
  have h3 : ((((w.alloc (.cells #[.pointer (some ⟨D, 0, none⟩)] 24)).alloc (.cells #[.string s] 9)).alloc (.cells #[.string t] 9)).alloc (.cells #[.string s, .string t] 9)).heap[w.heap.size + 1 + 1]? = some (.cells #[.string t] 9 (0, 0)) := by rw [Below.heap_alloc _ _ _ (by omega), ← z1]; exact (MapKept.heap_alloc _ _).1
  generalize hw0 : ((((w.alloc (.cells #[.pointer (some ⟨D, 0, none⟩)] 24)).alloc (.cells #[.string s] 9)).alloc (.cells #[.string t] 9)).alloc (.cells #[.string s, .string t] 9)) = w0 at old hN hK0 c1 h2 h3
  have hD0 := (old D hDlt).trans hD
  have hm0 : HasMap w0 M S.n S.ptrs := hd.map.kept (old M hMlt)
  have cN : ∀ i, i < 2 → w0.cell? ⟨w.heap.size + 1 + 1 + 1, 0 + i, none⟩ = some (.string ((fun i => if i = 0 then s else t) i)) := by
    intro i hi
    match i, hi with
    | 0, _ => simp [World.cell?, hN]
    | 1, _ => simp [World.cell?, hN]
  have HD0 := Lib.hid hD0
  have HS := Lib.hid hs
  have HT := Lib.hid ht
  have HN := Lib.hid cN
  have HM0 := Lib.hid hm0
  have HPF := Lib.hid hpf
  have HW0 := Lib.hid hw0
  have HK0 := Lib.hid hK0
  clear hD0 hs cN hm0 hpf hw0 hN hD old hoff hd hf hK0 z0 z1 z2 ht h2 h3
  go_enter Try.func27, Try.ntmps27
  go_wp2_with (go_at_call 19; rw [HW0.out]; refine (refused_none D M _ _ _ _ (w.heap.size + 1 + 1 + 1) 0 2 2 (fun i => if i = 0 then s else t) S.ptrs _ HD0.out (by omega) (by omega) (fun i _ => (by by_cases h0 : i = 0; (rw [if_pos h0]; exact HS.out); (rw [if_neg h0]; exact HT.out))) HN.out HM0.out HPF.out).mono ?_; rintro e w' ⟨rfl, q, rfl⟩)
  go_ret
  exact ⟨rfl, HK0.out.trans (Keeps.drewN _ _ _)⟩

end Go.Proofs.Ytigbodokmkpohaa
