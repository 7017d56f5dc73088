/- Append: what it leaves, and the walks. -/
import Derived.Test.YtigbodokmkpohaaD
namespace Go.Proofs.Ytigbodokmkpohaa
open Go.RowKit

theorem ownsRow_cells {w : World} {base n : Nat} {v : Value} {xs : List Value} (h : w.ownsRow base 5 1 v n xs) {k : Nat} (hk : v.ownBlock = some k) : ∃ cur, w.heap[k]? = some (.cells cur 5 (0, 0)) := by
  rcases h.2 with ⟨rfl, _⟩ | ⟨g, cap, cur, rfl, _, hg, _⟩
  · cases hk
  · simp only [Value.ownBlock, Option.some.injEq] at hk
    subst hk
    exact ⟨cur, hg⟩

theorem ownsRow_same {w w' : World} {base n : Nat} {v : Value} {xs : List Value} (h : w.ownsRow base 5 1 v n xs) (hb : ∀ k, v.ownBlock = some k → w'.heap[k]? = w.heap[k]?) : w'.ownsRow base 5 1 v n xs := by
  refine ⟨h.1, ?_⟩
  rcases h.2 with hn | ⟨g, cap, cur, rfl, hbg, hgg, rest⟩
  · exact .inl hn
  · exact .inr ⟨g, cap, cur, rfl, hbg, by rw [hb g rfl]; exact hgg, rest⟩

theorem DiskIs.D_lt {w : World} {base D M : Nat} {S : DS} (h : DiskIs w base D M S) : D < w.heap.size := (Array.getElem?_eq_some_iff.1 h.disk).1
theorem DiskIs.blk_lt {w : World} {base D M : Nat} {S : DS} (h : DiskIs w base D M S) {s : ByteArray} {f : DF} (hf : S.fs s = some f) : f.blk < w.heap.size := (Array.getElem?_eq_some_iff.1 (h.file s f hf)).1
theorem Owned.lt {w : World} {base : Nat} {S : DS} (h : Owned w base S) {s : ByteArray} {f : DF} (hf : S.fs s = some f) {k : Nat} (hk : f.v.ownBlock = some k) : k < w.heap.size := ((h.row s f hf).lt k hk).2
theorem Foot.lt {w : World} {base D M : Nat} {S : DS} (h : DiskIs w base D M S) (ho : Owned w base S) {b : Nat} (hb : Foot D M S b) : b < w.heap.size := by
  rcases hb with rfl | rfl | ⟨s, f, hf, rfl | hk⟩
  · exact h.D_lt
  · exact h.map.lt
  · exact h.blk_lt hf
  · exact ho.lt hf hk
theorem Foot.lo {w : World} {base D M : Nat} {S : DS} (h : DiskIs w base D M S) (ho : Owned w base S) {b : Nat} (hb : Foot D M S b) : base ≤ b := by
  rcases hb with rfl | rfl | ⟨s, f, hf, rfl | hk⟩
  · exact h.lo.1
  · exact h.lo.2.1
  · exact h.lo.2.2 s f hf
  · exact ((ho.row s f hf).lt b hk).1

theorem DiskIs.M_ne_D {w : World} {base D M : Nat} {S : DS} (h : DiskIs w base D M S) : M ≠ D := by
  rintro rfl
  obtain ⟨es, clock, hb, _⟩ := h.map
  rw [h.disk] at hb; cases hb
theorem DiskIs.blk_ne_D {w : World} {base D M : Nat} {S : DS} (h : DiskIs w base D M S) {s : ByteArray} {f : DF} (hf : S.fs s = some f) : f.blk ≠ D := by
  intro e
  have := h.file s f hf
  rw [e, h.disk] at this; simp at this
theorem DiskIs.blk_ne_M {w : World} {base D M : Nat} {S : DS} (h : DiskIs w base D M S) {s : ByteArray} {f : DF} (hf : S.fs s = some f) : f.blk ≠ M := by
  intro e
  have h1 := h.file s f hf
  obtain ⟨es, clock, hb, _⟩ := h.map
  rw [e, hb] at h1; cases h1
theorem DiskIs.row_ne {w : World} {base D M : Nat} {S : DS} (h : DiskIs w base D M S) (ho : Owned w base S) {s : ByteArray} {f : DF} (hf : S.fs s = some f) {k : Nat} (hk : f.v.ownBlock = some k) :
    k ≠ D ∧ k ≠ M ∧ ∀ t g, S.fs t = some g → k ≠ g.blk := by
  obtain ⟨cur, hc⟩ := ownsRow_cells (ho.row s f hf) hk
  refine ⟨?_, ?_, ?_⟩
  · rintro rfl; rw [h.disk] at hc; simp at hc
  · rintro rfl
    obtain ⟨es, clock, hb, _⟩ := h.map
    rw [hb] at hc; cases hc
  · rintro t g hg rfl; rw [h.file t g hg] at hc; simp at hc

/-- All of it stays where the foot stays. -/
theorem DiskIs.kept {w w' : World} {base D M : Nat} {S : DS} (h : DiskIs w base D M S) (hk : ∀ b, Foot D M S b → w'.heap[b]? = w.heap[b]?) : DiskIs w' base D M S :=
  ⟨(hk D (.inl rfl)).trans h.disk, h.map.kept (hk M (.inr (.inl rfl))), fun s f hf => (hk f.blk (.inr (.inr ⟨s, f, hf, .inl rfl⟩))).trans (h.file s f hf), h.syn, h.lo, h.inj⟩
theorem Owned.kept {w w' : World} {base D M : Nat} {S : DS} (h : Owned w base S) (hk : ∀ b, Foot D M S b → w'.heap[b]? = w.heap[b]?) : Owned w' base S :=
  ⟨fun s f hf => ownsRow_same (h.row s f hf) (fun k hkk => hk k (.inr (.inr ⟨s, f, hf, .inr hkk⟩))), h.apart⟩

/-- What Append leaves where the file is there. -/
def appended (S : DS) (s : ByteArray) (f : DF) (v' : Value) (l : List UInt8) : DS := { S with ops := S.ops + 1, fs := upd S.fs s (some { f with v := v', bytes := f.bytes ++ l }) }

theorem append_fin {w w2 w3 : World} {base D M : Nat} {S : DS} {s : ByteArray} {f : DF} {l : List UInt8} {v' : Value} (hd : DiskIs w base D M S) (ho : Owned w base S) (hf : S.fs s = some f)
    (hk : Keeps (fun b => f.v.ownBlock = some b) w w2) (hown : w2.ownsRow base 5 1 v' (f.bytes.length + l.length) (cellsOf f.bytes ++ cellsOf l))
    (hloc : v'.ownBlock = f.v.ownBlock ∨ ∃ k, v'.ownBlock = some k ∧ w.heap.size ≤ k)
    (h3 : ∃ q, w3 = ((w2.setCell ⟨f.blk, 0, none⟩ v').setCell ⟨D, 2, none⟩ (.int .i64 (S.ops + 1))).drewN q) :
    DiskIs w3 base D M (appended S s f v' l) ∧ Owned w3 base (appended S s f v' l) ∧ Keeps (Foot D M S) w w3 := by
  obtain ⟨q, rfl⟩ := h3
  have rn : ∀ {k : Nat}, f.v.ownBlock = some k → k ≠ D ∧ k ≠ M ∧ ∀ t g, S.fs t = some g → k ≠ g.blk := fun hk => hd.row_ne ho hf hk
  have heq : ∀ b : Nat, ((((w2.setCell ⟨f.blk, 0, none⟩ v').setCell ⟨D, 2, none⟩ (.int .i64 (S.ops + 1))).drewN q).heap[b]? = ((w2.setCell ⟨f.blk, 0, none⟩ v').setCell ⟨D, 2, none⟩ (.int .i64 (S.ops + 1))).heap[b]?) := fun b => by simp
  have old : ∀ b : Nat, b < w.heap.size → f.v.ownBlock ≠ some b → w2.heap[b]? = w.heap[b]? := fun b hb hr => hk.block b hb hr
  have hbD : f.blk ≠ D := hd.blk_ne_D hf
  have far : ∀ b : Nat, b ≠ D → b ≠ f.blk → ((w2.setCell ⟨f.blk, 0, none⟩ v').setCell ⟨D, 2, none⟩ (.int .i64 (S.ops + 1))).heap[b]? = w2.heap[b]? := fun b h1 h2 => by
    rw [Below.heap_setCell _ _ _ _ h1, Below.heap_setCell _ _ _ _ h2]
  have rowD : f.v.ownBlock ≠ some D := fun e => (rn e).1 rfl
  have rowM : f.v.ownBlock ≠ some M := fun e => (rn e).2.1 rfl
  have rowF : ∀ t g, S.fs t = some g → f.v.ownBlock ≠ some g.blk := fun t g hg e => (rn e).2.2 t g hg rfl
  have kF : Keeps (Foot D M S) w (((w2.setCell ⟨f.blk, 0, none⟩ v').setCell ⟨D, 2, none⟩ (.int .i64 (S.ops + 1))).drewN q) :=
    (((hk.mono (fun b _ hb => .inr (.inr ⟨s, f, hf, .inr hb⟩))).trans (Keeps.setCell _ _ _ (fun _ => .inr (.inr ⟨s, f, hf, .inl rfl⟩)))).trans (Keeps.setCell _ _ _ (fun _ => .inl rfl))).trans (Keeps.drewN _ _ _)
  have hfs : ∀ t g, (appended S s f v' l).fs t = some g → (t = s ∧ g = { f with v := v', bytes := f.bytes ++ l }) ∨ (t ≠ s ∧ S.fs t = some g) := by
    intro t g hg
    simp only [appended, upd] at hg
    by_cases hts : t = s
    · rw [if_pos hts] at hg; cases hg; exact .inl ⟨hts, rfl⟩
    · rw [if_neg hts] at hg; exact .inr ⟨hts, hg⟩
  have hown' : ∀ k, v'.ownBlock = some k → ∃ cur, w2.heap[k]? = some (.cells cur 5 (0, 0)) := fun k hk => ownsRow_cells hown hk
  refine ⟨⟨?_, ?_, ?_, ?_, ?_, ?_⟩, ⟨?_, ?_⟩, kF⟩
  · rw [heq]
    have h1 : (w2.setCell ⟨f.blk, 0, none⟩ v').heap[D]? = w.heap[D]? := by rw [Below.heap_setCell _ _ _ _ hbD.symm]; exact old D hd.D_lt rowD
    rw [heap_setCell_at (h1.trans hd.disk)]
    simp [appended]
  · have e1 : (appended S s f v' l).ptrs = S.ptrs := by
      funext t
      simp only [DS.ptrs, appended, upd]
      by_cases hts : t = s
      · rw [if_pos hts, hts, hf]; rfl
      · rw [if_neg hts]
    rw [e1]
    refine hd.map.kept ?_
    rw [heq, far M hd.M_ne_D (hd.blk_ne_M hf).symm]
    exact old M hd.map.lt rowM
  · intro t g hg
    rw [heq]
    rcases hfs t g hg with ⟨rfl, rfl⟩ | ⟨hts, hg⟩
    · rw [Below.heap_setCell _ _ _ _ hbD]
      rw [heap_setCell_at ((old f.blk (hd.blk_lt hf) (rowF _ f hf)).trans (hd.file _ f hf))]
      simp
    · have hne : g.blk ≠ f.blk := fun e => hts (hd.inj t s g f hg hf e)
      rw [far g.blk (hd.blk_ne_D hg) hne, old g.blk (hd.blk_lt hg) (rowF t g hg)]
      exact hd.file t g hg
  · intro t g hg
    rcases hfs t g hg with ⟨rfl, rfl⟩ | ⟨hts, hg⟩
    · have := hd.syn _ f hf; simp; omega
    · exact hd.syn t g hg
  · refine ⟨hd.lo.1, hd.lo.2.1, fun t g hg => ?_⟩
    rcases hfs t g hg with ⟨rfl, rfl⟩ | ⟨hts, hg⟩
    · exact hd.lo.2.2 _ f hf
    · exact hd.lo.2.2 t g hg
  · intro t u g g' hg hg' e
    rcases hfs t g hg with ⟨rfl, rfl⟩ | ⟨hts, hg2⟩ <;> rcases hfs u g' hg' with ⟨rfl, rfl⟩ | ⟨hus, hg2'⟩
    · rfl
    · exact hd.inj _ u f g' hf hg2' e
    · exact hd.inj t _ g f hg2 hf e
    · exact hd.inj t u g g' hg2 hg2' e
  · intro t g hg
    rcases hfs t g hg with ⟨rfl, rfl⟩ | ⟨hts, hg⟩
    · have h1 : cellsOf (f.bytes ++ l) = cellsOf f.bytes ++ cellsOf l := cellsOf_append _ _
      simp only [List.length_append, h1]
      refine ownsRow_same hown (fun k hkk => ?_)
      obtain ⟨cur, hc⟩ := hown' k hkk
      rw [heq]
      refine far k ?_ ?_
      · rintro rfl
        have := old k hd.D_lt rowD
        rw [hc, hd.disk] at this; simp at this
      · rintro rfl
        have := old f.blk (hd.blk_lt hf) (rowF _ f hf)
        rw [hc, hd.file _ f hf] at this; simp at this
    · refine ownsRow_same (ho.row t g hg) (fun k hkk => ?_)
      have rg := hd.row_ne ho hg hkk
      rw [heq, far k rg.1 (rg.2.2 s f hf)]
      exact old k (ho.lt hg hkk) (fun e => hts (ho.apart t s g f k hg hf hkk e))
  · intro t u g g' k hg hg' hk1 hk2
    rcases hfs t g hg with ⟨rfl, rfl⟩ | ⟨hts, hg2⟩ <;> rcases hfs u g' hg' with ⟨rfl, rfl⟩ | ⟨hus, hg2'⟩
    · rfl
    · rcases hloc with h | ⟨k', h, hge⟩
      · exact ho.apart _ u f g' k hf hg2' (h ▸ hk1) hk2
      · have : k = k' := Option.some.inj (hk1.symm.trans h)
        have := ho.lt hg2' hk2
        omega
    · rcases hloc with h | ⟨k', h, hge⟩
      · exact ho.apart t _ g f k hg2 hf hk1 (h ▸ hk2)
      · have : k = k' := Option.some.inj (hk2.symm.trans h)
        have := ho.lt hg2 hk1
        omega
    · exact ho.apart t u g g' k hg2 hg2' hk1 hk2

theorem append_nothing (w : World) : Calls Try.prog 21 #[] w fun e w' => e = .returned (.tuple #[]) ∧ w = w' := by
  go_enter Try.func21, Try.ntmps21
  go_wp2
  go_end0
  exact ⟨rfl, rfl⟩

end Go.Proofs.Ytigbodokmkpohaa
