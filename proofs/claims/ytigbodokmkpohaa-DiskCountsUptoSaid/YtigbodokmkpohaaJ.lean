/- Read. -/
import Derived.Test.YtigbodokmkpohaaI
namespace Go.Proofs.Ytigbodokmkpohaa
open Go.RowKit

theorem ownsRow_mono {w : World} {base base' e n : Nat} {v : Value} {xs : List Value} (h : w.ownsRow base e 1 v n xs) (hb : base' ≤ base) : w.ownsRow base' e 1 v n xs := by
  refine ⟨h.1, ?_⟩
  rcases h.2 with h | ⟨g, cap, cur, h1, h2, r⟩
  · exact .inl h
  · exact .inr ⟨g, cap, cur, h1, Nat.le_trans hb h2, r⟩

set_option maxHeartbeats 400000 in
theorem read_off (D M : Nat) (x2 x3 x4 : Value) (s : ByteArray) (w : World) (hD : w.heap[D]? = some (.cells #[.map (some M), .bool true, x2, x3, x4] 49 (0, 0))) :
    Calls Try.prog 10 #[.pointer (some ⟨D, 0, none⟩), .string s] w fun e w' => e = .returned (.tuple #[.slice none 0 0, .int .i64 122]) ∧ Keeps (fun _ => False) w w' := by
  have hDlt : D < w.heap.size := (Array.getElem?_eq_some_iff.1 hD).1
  have hD0 : (w.alloc (.cells #[.string s] 9)).heap[D]? = some (.cells #[.map (some M), .bool true, x2, x3, x4] 49 (0, 0)) := (Below.heap_alloc _ _ _ hDlt).trans hD
  have HD0 := Lib.hid hD0
  clear hD hD0
  go_enter Try.func10, Try.ntmps10
  go_wp2_with (go_at_call 19; refine (refused_off D M _ _ _ _ _ _ HD0.out).mono ?_; rintro e w' ⟨rfl, rfl⟩)
  go_ret2
  exact ⟨rfl, Keeps.alloc _ _ _⟩

/-- What Read of a file comes to. -/
def ReadIs (w : World) (l : List UInt8) (e : Ending) (w' : World) : Prop :=
  ∃ a' c', e = .returned (.tuple #[.slice a' l.length c', .int .i64 0]) ∧ w'.ownsRow w.heap.size 5 1 (.slice a' l.length c') l.length (cellsOf l) ∧ Keeps (fun _ => False) w w'

set_option maxHeartbeats 800000 in
theorem read_some (base D M : Nat) (S : DS) (s : ByteArray) (f : DF) (w : World) (hd : DiskIs w base D M S) (hb : Bytes w f.v f.bytes) (hbl : ∀ k, f.v.ownBlock = some k → k < w.heap.size) (hs : Named s) (hf : S.fs s = some f) (hoff : S.off = false)
    (hl : f.bytes.length ≤ 140737488355328) : Calls Try.prog 10 #[.pointer (some ⟨D, 0, none⟩), .string s] w (ReadIs w f.bytes) := by
  have hD := hd.disk
  rw [hoff] at hD
  have hDlt := hd.D_lt
  have hblt := hd.blk_lt hf
  have hD0 : (w.alloc (.cells #[.string s] 9)).heap[D]? = some (.cells #[.map (some M), .bool false, .int .i64 S.ops, .int .i64 S.cutAt, .int .i64 S.part] 49 (0, 0)) := (Below.heap_alloc _ _ _ hDlt).trans hD
  have hf0 : (w.alloc (.cells #[.string s] 9)).heap[f.blk]? = some (.cells #[f.v, .int .i64 f.syn] 53 (0, 0)) := (Below.heap_alloc _ _ _ hblt).trans (hd.file s f hf)
  have cM : (w.alloc (.cells #[.string s] 9)).cell? ⟨D, 0, none⟩ = some (.map (some M)) := by simp [World.cell?, hD0]
  have cN : (w.alloc (.cells #[.string s] 9)).cell? ⟨w.heap.size, 0, none⟩ = some (.string s) := by
    have hN0 := (MapKept.heap_alloc w (.cells #[.string s] 9)).1
    simp only [World.cell?, hN0]; rfl
  have hm1 : ∀ q, HasMap ((w.alloc (.cells #[.string s] 9)).drewN q) M S.n S.ptrs := fun q => hd.map.kept (by rw [heap_drewN]; exact Below.heap_alloc _ _ _ hd.map.lt)
  have hlk : ∀ q, (Instr.lookup 47 (.map (some M)) (.string s) false).run Try.prog ((w.alloc (.cells #[.string s] 9)).drewN q) = .ok (.pointer (some ⟨f.blk, 0, none⟩)) ((w.alloc (.cells #[.string s] 9)).drewN q) := fun q => by
    have := (hm1 q).look (P := Try.prog) (t := 47) (k := 9) (e := 51) rfl rfl (zero51 _) s
    rw [show S.ptrs s = some f.ptr by simp [DS.ptrs, hf]] at this
    exact this
  have hpf : S.ptrs s = some (.pointer (some ⟨f.blk, 0, none⟩)) := by simp [DS.ptrs, hf, DF.ptr]
  have HPF := Lib.hid hpf
  have hm0 : HasMap (w.alloc (.cells #[.string s] 9)) M S.n S.ptrs := hm1 0
  have HM0 := Lib.hid hm0
  have HD0 := Lib.hid hD0
  have HS := Lib.hid hs
  have HN := Lib.hid cN
  have hbk : ∀ q, Bytes ((w.alloc (.cells #[.string s] 9)).drewN q) f.v f.bytes := fun q => hb.kept (fun k hk => by rw [heap_drewN]; exact Below.heap_alloc _ _ _ (hbl k hk))
  have hsz : w.heap.size ≤ (w.alloc (.cells #[.string s] 9)).heap.size := by simp
  have hcases : (f.v = .slice none 0 0 ∧ f.bytes = []) ∨ ∃ a c, f.v = .slice (some a) f.bytes.length c := by
    rcases hb with h | ⟨a, c, h, _⟩
    · exact .inl h
    · exact .inr ⟨a, c, h⟩
  clear hm0 hm1 hpf hf hD hd
  rcases hcases with ⟨hv, hn⟩ | ⟨a, c, hv⟩
  · have cF : (w.alloc (.cells #[.string s] 9)).cell? ⟨f.blk, 0, none⟩ = some (.slice none 0 0) := by simp [World.cell?, hf0, hv]
    rw [hn]
    clear hbk hv hn hf0 hD0 hb cN hs
    go_enter Try.func10, Try.ntmps10
    go_wp2_with (first
      | (go_at_call 19; refine (refused_there D M _ _ _ _ w.heap.size 0 1 1 (fun _ => s) S.ptrs _ _ HD0.out (by omega) (by omega) (fun _ _ => HS.out) (fun i hi => ?_) HM0.out HPF.out).mono ?_; (obtain rfl : i = 0 := by omega); exact HN.out; rintro e w' ⟨rfl, q, rfl⟩)
      | (go_at_call 22; refine (clone_nil _).mono ?_; rintro e w' ⟨rfl, rfl⟩))
    go_ret2
    exact ⟨none, 0, rfl, World.ownsRow_nil _ _ _ _, (Keeps.alloc _ _ _).trans (Keeps.drewN _ _ _)⟩
  · have cF : (w.alloc (.cells #[.string s] 9)).cell? ⟨f.blk, 0, none⟩ = some (.slice (some a) f.bytes.length c) := by simp [World.cell?, hf0, hv]
    have halt : a.block < w.heap.size := hbl a.block (by rw [hv]; rfl)
    rw [hv] at hbk
    have HBK := Lib.hid hbk
    have hfin : ∀ w2 q a' c', w2.ownsRow ((w.alloc (.cells #[.string s] 9)).drewN q).heap.size 5 1 (.slice a' f.bytes.length c') f.bytes.length (cellsOf f.bytes) → ((w.alloc (.cells #[.string s] 9)).drewN q).grownBy w2 none →
        w2.ownsRow w.heap.size 5 1 (.slice a' f.bytes.length c') f.bytes.length (cellsOf f.bytes) ∧ Keeps (fun _ => False) w w2 := fun w2 q a' c' h1 h2 =>
      ⟨ownsRow_mono h1 hsz, ((Keeps.alloc _ _ _).trans (Keeps.drewN _ _ _)).trans (Keeps.grown h2 (fun k e _ => by cases e))⟩
    have HFIN := Lib.hid hfin
    clear hbk hv hf0 hD0 hb cN hs hfin
    go_enter Try.func10, Try.ntmps10
    go_wp2_with (first
      | (go_at_call 19; refine (refused_there D M _ _ _ _ w.heap.size 0 1 1 (fun _ => s) S.ptrs _ _ HD0.out (by omega) (by omega) (fun _ _ => HS.out) (fun i hi => ?_) HM0.out HPF.out).mono ?_; (obtain rfl : i = 0 := by omega); exact HN.out; rintro e w' ⟨rfl, q, rfl⟩)
      | (go_at_call 22; refine (clone_some a f.bytes c _ (HBK.out _) (by simp; omega) hl).mono ?_; rintro e w2 ⟨a', c', rfl, ho2, hg2⟩; have HO := Lib.hid ho2; have HG := Lib.hid hg2; clear ho2 hg2))
    go_ret2
    exact ⟨a', c', rfl, HFIN.out _ _ _ _ HO.out HG.out⟩

end Go.Proofs.Ytigbodokmkpohaa
