/- Sync. -/
import Derived.Test.YtigbodokmkpohaaL
namespace Go.Proofs.Ytigbodokmkpohaa
open Go.RowKit

def synced (S : DS) (s : ByteArray) (f : DF) : DS := { S with ops := S.ops + 1, fs := upd S.fs s (some { f with syn := f.bytes.length }) }

theorem sync_fin {w w3 : World} {base D M : Nat} {S : DS} {s : ByteArray} {f : DF} (hd : DiskIs w base D M S) (ho : Owned w base S) (hf : S.fs s = some f)
    (hk : Keeps (fun b => b = D ∨ b = f.blk) w w3) (hD : w3.heap[D]? = some (.cells #[.map (some M), .bool S.off, .int .i64 (S.ops + 1), .int .i64 S.cutAt, .int .i64 S.part] 49 (0, 0)))
    (hF : w3.heap[f.blk]? = some (.cells #[f.v, .int .i64 f.bytes.length] 53 (0, 0))) :
    DiskIs w3 base D M (synced S s f) ∧ Owned w3 base (synced S s f) ∧ Keeps (Foot D M S) w w3 := by
  have hfs : ∀ t g, (synced S s f).fs t = some g → (t = s ∧ g = { f with syn := f.bytes.length }) ∨ (t ≠ s ∧ S.fs t = some g) := by
    intro t g hg
    simp only [synced, upd] at hg
    by_cases hts : t = s
    · rw [if_pos hts] at hg; cases hg; exact .inl ⟨hts, rfl⟩
    · rw [if_neg hts] at hg; exact .inr ⟨hts, hg⟩
  have orig : ∀ t g, (synced S s f).fs t = some g → ∃ g0, S.fs t = some g0 ∧ g0.blk = g.blk ∧ g0.v = g.v ∧ g0.bytes = g.bytes := by
    intro t g hg
    rcases hfs t g hg with ⟨rfl, rfl⟩ | ⟨_, hg⟩
    · exact ⟨f, hf, rfl, rfl, rfl⟩
    · exact ⟨g, hg, rfl, rfl, rfl⟩
  refine ⟨⟨hD, ?_, ?_, ?_, ?_, ?_⟩, ⟨?_, ?_⟩, hk.mono (fun b _ h => h.elim .inl (fun h => .inr (.inr ⟨s, f, hf, .inl h⟩)))⟩
  · have e1 : (synced S s f).ptrs = S.ptrs := by
      funext t
      simp only [DS.ptrs, synced, upd]
      by_cases hts : t = s
      · rw [if_pos hts, hts, hf]; rfl
      · rw [if_neg hts]
    rw [e1]
    exact hd.map.kept (hk.block M hd.map.lt (fun h => h.elim hd.M_ne_D (fun h => hd.blk_ne_M hf h.symm)))
  · intro t g hg
    rcases hfs t g hg with ⟨rfl, rfl⟩ | ⟨hts, hg⟩
    · exact hF
    · rw [hk.block g.blk (hd.blk_lt hg) (fun h => h.elim (hd.blk_ne_D hg) (fun h => hts (hd.inj t s g f hg hf h)))]
      exact hd.file t g hg
  · intro t g hg
    rcases hfs t g hg with ⟨rfl, rfl⟩ | ⟨hts, hg⟩
    · exact Nat.le_refl _
    · exact hd.syn t g hg
  · refine ⟨hd.lo.1, hd.lo.2.1, fun t g hg => ?_⟩
    obtain ⟨g0, h0, hb, _⟩ := orig t g hg
    rw [← hb]; exact hd.lo.2.2 t g0 h0
  · intro t u g g' hg hg' e
    obtain ⟨g0, h0, hb, _⟩ := orig t g hg
    obtain ⟨g1, h1, hb1, _⟩ := orig u g' hg'
    exact hd.inj t u g0 g1 h0 h1 (by omega)
  · intro t g hg
    obtain ⟨g0, h0, _, hv, hby⟩ := orig t g hg
    rw [← hv, ← hby]
    refine ownsRow_same (ho.row t g0 h0) (fun k hkk => ?_)
    have rg := hd.row_ne ho h0 hkk
    exact hk.block k (ho.lt h0 hkk) (fun h => h.elim rg.1 (rg.2.2 s f hf))
  · intro t u g g' k hg hg' h1 h2
    obtain ⟨g0, e0, _, hv, _⟩ := orig t g hg
    obtain ⟨g1, e1, _, hv1, _⟩ := orig u g' hg'
    exact ho.apart t u g0 g1 k e0 e1 (hv ▸ h1) (hv1 ▸ h2)

def SyncIs (w : World) (base D M : Nat) (S : DS) (s : ByteArray) (f : DF) (w' : World) : Prop :=
  DiskIs w' base D M (synced S s f) ∧ Owned w' base (synced S s f) ∧ Keeps (Foot D M S) w w'

theorem step28 : ∀ caps W, (callFunc 28 caps).run Try.prog W = .ok (.enter 28 caps) W := fun caps W => by kernel_rfl

set_option maxHeartbeats 800000 in
theorem sync_some (base D M : Nat) (S : DS) (s : ByteArray) (f : DF) (w : World) (hd : DiskIs w base D M S) (ho : Owned w base S) (hs : Named s) (hf : S.fs s = some f) (hoff : S.off = false) (hops : S.ops ≤ 1000000) (hat : (S.ops : Int) ≠ S.cutAt)
    (hl : f.bytes.length ≤ 140737488355328) :
    Calls Try.prog 16 #[.pointer (some ⟨D, 0, none⟩), .string s] w fun e w' => e = .returned (.int .i64 0) ∧ SyncIs w base D M S s f w' := by
  have hD := hd.disk
  rw [hoff] at hD
  have hDlt := hd.D_lt
  have hMlt := hd.map.lt
  have hMD := hd.M_ne_D
  have hblt := hd.blk_lt hf
  have hbD := hd.blk_ne_D hf
  have hbM := hd.blk_ne_M hf
  have hv : ∃ a0 c0, f.v = .slice a0 f.bytes.length c0 := by
    rcases (ho.row s f hf).2 with ⟨h, hn⟩ | ⟨g, cap, cur, h, _⟩
    · exact ⟨none, 0, by rw [h, hn]⟩
    · exact ⟨_, _, h⟩
  obtain ⟨a0, c0v, hv⟩ := hv
  have hpf : S.ptrs s = some (.pointer (some ⟨f.blk, 0, none⟩)) := by simp [DS.ptrs, hf, DF.ptr]
  have hs1 : (w.alloc (.cells #[.string s] 9)).heap.size = w.heap.size + 1 := by simp
  have old : ∀ b, b < w.heap.size → (w.alloc (.cells #[.string s] 9)).heap[b]? = w.heap[b]? := fun b hb => Below.heap_alloc _ _ _ hb
  have hN : (w.alloc (.cells #[.string s] 9)).heap[w.heap.size]? = some (.cells #[.string s] 9 (0, 0)) := (MapKept.heap_alloc _ _).1
  have hm0 : HasMap (w.alloc (.cells #[.string s] 9)) M S.n S.ptrs := hd.map.kept (old M hMlt)
  have hD0 := (old D hDlt).trans hD
  have cN : (w.alloc (.cells #[.string s] 9)).cell? ⟨w.heap.size, 0, none⟩ = some (.string s) := by simp only [World.cell?, hN]; rfl
  have cM : (w.alloc (.cells #[.string s] 9)).cell? ⟨D, 0, none⟩ = some (.map (some M)) := by simp [World.cell?, hD0]
  have hlk : ∀ q, (Instr.lookup 47 (.map (some M)) (.string s) false).run Try.prog ((w.alloc (.cells #[.string s] 9)).drewN q) = .ok (.pointer (some ⟨f.blk, 0, none⟩)) ((w.alloc (.cells #[.string s] 9)).drewN q) := fun q => by
    have := (HasMap.kept (w' := (w.alloc (.cells #[.string s] 9)).drewN q) hm0 (by rw [heap_drewN])).look (P := Try.prog) (t := 47) (k := 9) (e := 51) rfl rfl (zero51 _) s
    rw [hpf] at this
    exact this
  have old2 : ∀ b, b < w.heap.size → ((w.alloc (.cells #[.string s] 9)).alloc (.cells #[.pointer (some ⟨f.blk, 0, none⟩)] 51)).heap[b]? = w.heap[b]? := fun b hb => by
    rw [Below.heap_alloc _ _ _ (by omega), old b hb]
  have hB2 : ((w.alloc (.cells #[.string s] 9)).alloc (.cells #[.pointer (some ⟨f.blk, 0, none⟩)] 51)).heap[w.heap.size + 1]? = some (.cells #[.pointer (some ⟨f.blk, 0, none⟩)] 51 (0, 0)) := by
    rw [← hs1]; exact (MapKept.heap_alloc _ _).1
  have hK2 : ∀ F : Nat → Prop, Keeps F w ((w.alloc (.cells #[.string s] 9)).alloc (.cells #[.pointer (some ⟨f.blk, 0, none⟩)] 51)) := fun F => (Keeps.alloc _ _ _).trans (Keeps.alloc _ _ _)
  have hdo : ∀ q q', Calls Try.prog 28 #[.pointer (some ⟨w.heap.size + 1, 0, none⟩)] (((((w.alloc (.cells #[.string s] 9)).alloc (.cells #[.pointer (some ⟨f.blk, 0, none⟩)] 51)).drewN q).setCell ⟨D, 2, none⟩ (.int .i64 (S.ops + 1))).drewN q') fun e w' => e = .returned (.tuple #[]) ∧ SyncIs w base D M S s f w' := by
    intro q q'
    generalize ((w.alloc (.cells #[.string s] 9)).alloc (.cells #[.pointer (some ⟨f.blk, 0, none⟩)] 51)) = w0 at old2 hB2 hK2
    have hset : ∀ b : Nat, b ≠ D → (((w0.drewN q).setCell ⟨D, 2, none⟩ (.int .i64 (S.ops + 1))).drewN q').heap[b]? = w0.heap[b]? := fun b hb => by
      rw [heap_drewN, Below.heap_setCell _ _ _ _ hb, heap_drewN]
    have hDs : (((w0.drewN q).setCell ⟨D, 2, none⟩ (.int .i64 (S.ops + 1))).drewN q').heap[D]? = some (.cells #[.map (some M), .bool false, .int .i64 (S.ops + 1), .int .i64 S.cutAt, .int .i64 S.part] 49 (0, 0)) := by
      rw [heap_drewN, heap_setCell_at (by rw [heap_drewN, old2 D hDlt]; exact hD)]; simp
    have hFs : (((w0.drewN q).setCell ⟨D, 2, none⟩ (.int .i64 (S.ops + 1))).drewN q').heap[f.blk]? = some (.cells #[.slice a0 f.bytes.length c0v, .int .i64 f.syn] 53 (0, 0)) := by
      rw [hset _ hbD, old2 _ hblt, hd.file s f hf, hv]
    have hk1 : Keeps (fun b => b = D ∨ b = f.blk) w (((w0.drewN q).setCell ⟨D, 2, none⟩ (.int .i64 (S.ops + 1))).drewN q') := (((hK2 _).trans (Keeps.drewN _ _ _)).trans (Keeps.setCell _ _ _ (fun _ => .inl rfl))).trans (Keeps.drewN _ _ _)
    refine (sync_step (w.heap.size + 1) f.blk a0 f.bytes.length c0v _ _ (by omega) ((hset _ (by omega)).trans hB2) hFs).mono ?_
    generalize ((w0.drewN q).setCell ⟨D, 2, none⟩ (.int .i64 (S.ops + 1))).drewN q' = w1 at hset hDs hFs hk1
    rintro e w' ⟨he, q2, rfl⟩
    refine ⟨he, ?_⟩
    refine sync_fin hd ho hf ((hk1.trans (Keeps.setCell _ _ _ (fun _ => .inr rfl))).trans (Keeps.drewN _ _ _)) ?_ ?_
    · rw [heap_drewN, Below.heap_setCell _ _ _ _ hbD.symm, hDs, hoff]
    · rw [heap_drewN, heap_setCell_at hFs, hv]; simp
  have hDd : ∀ q, (((w.alloc (.cells #[.string s] 9)).alloc (.cells #[.pointer (some ⟨f.blk, 0, none⟩)] 51)).drewN q).heap[D]? = some (.cells #[.map (some M), .bool false, .int .i64 S.ops, .int .i64 S.cutAt, .int .i64 S.part] 49 (0, 0)) := fun q => by
    rw [heap_drewN, old2 D hDlt]; exact hD
  have HDO := Lib.hid hdo
  have HDD := Lib.hid hDd
  have HD0 := Lib.hid hD0
  have HS := Lib.hid hs
  have HN := Lib.hid cN
  have HM0 := Lib.hid hm0
  have HPF := Lib.hid hpf
  have HAT := Lib.hid hat
  clear hdo hDd hD0 hs cN hm0 hpf hat hN hD old old2 hs1 hB2 hoff hd ho hf hK2 hv
  go_enter Try.func16, Try.ntmps16
  go_wp2_with (first
    | (go_at_call 19; refine (refused_there D M _ _ _ _ w.heap.size 0 1 1 (fun _ => s) S.ptrs _ _ HD0.out (by omega) (by omega) (fun _ _ => HS.out) (fun i hi => ?_) HM0.out HPF.out).mono ?_; (obtain rfl : i = 0 := by omega); exact HN.out; rintro e w' ⟨rfl, q, rfl⟩)
    | (go_at_call 20; refine (done_goes D _ _ _ S.ops S.cutAt 28 _ (fun w3 => SyncIs w base D M S s f w3) _ (HDD.out _) hops HAT.out (step28 _) (fun q' => HDO.out _ q')).mono ?_; rintro e w' ⟨rfl, hw3⟩; have H3 := Lib.hid hw3; clear hw3))
  go_ret
  exact ⟨rfl, H3.out⟩

end Go.Proofs.Ytigbodokmkpohaa
