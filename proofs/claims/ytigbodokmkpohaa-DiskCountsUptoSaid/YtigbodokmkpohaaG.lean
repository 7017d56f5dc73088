/- Append, walked: the file is new; and: there is no room. -/
import Derived.Test.YtigbodokmkpohaaF
namespace Go.Proofs.Ytigbodokmkpohaa
open Go.RowKit

def appendedNew (S : DS) (s : ByteArray) (blk : Nat) (v' : Value) (l : List UInt8) : DS := { S with ops := S.ops + 1, n := S.n + 1, fs := upd S.fs s (some { blk := blk, v := v', bytes := l, syn := 0 }) }

theorem append_fin_new {w w2 w3 : World} {base D M blk : Nat} {S : DS} {s : ByteArray} {l : List UInt8} {v' : Value} (hd : DiskIs w base D M S) (ho : Owned w base S) (hf : S.fs s = none)
    (hk : Keeps (fun b => b = M) w w2) (hblk : w.heap.size ≤ blk) (hb : w2.heap[blk]? = some (.cells #[.slice none 0 0, .int .i64 0] 53 (0, 0))) (hm : HasMap w2 M (S.n + 1) (upd S.ptrs s (some (.pointer (some ⟨blk, 0, none⟩)))))
    (hown : w2.ownsRow base 5 1 v' l.length (cellsOf l)) (hloc : ∀ k, v'.ownBlock = some k → w.heap.size ≤ k) (hbase : base ≤ w.heap.size)
    (h3 : ∃ q, w3 = ((w2.setCell ⟨blk, 0, none⟩ v').setCell ⟨D, 2, none⟩ (.int .i64 (S.ops + 1))).drewN q) :
    DiskIs w3 base D M (appendedNew S s blk v' l) ∧ Owned w3 base (appendedNew S s blk v' l) ∧ Keeps (Foot D M S) w w3 := by
  obtain ⟨q, rfl⟩ := h3
  have hDlt := hd.D_lt
  have hMlt := hd.map.lt
  have heq : ∀ b : Nat, ((((w2.setCell ⟨blk, 0, none⟩ v').setCell ⟨D, 2, none⟩ (.int .i64 (S.ops + 1))).drewN q).heap[b]? = ((w2.setCell ⟨blk, 0, none⟩ v').setCell ⟨D, 2, none⟩ (.int .i64 (S.ops + 1))).heap[b]?) := fun b => by simp
  have old : ∀ b : Nat, b < w.heap.size → b ≠ M → w2.heap[b]? = w.heap[b]? := fun b hb hr => hk.block b hb hr
  have hbD : blk ≠ D := by omega
  have far : ∀ b : Nat, b ≠ D → b ≠ blk → ((w2.setCell ⟨blk, 0, none⟩ v').setCell ⟨D, 2, none⟩ (.int .i64 (S.ops + 1))).heap[b]? = w2.heap[b]? := fun b h1 h2 => by
    rw [Below.heap_setCell _ _ _ _ h1, Below.heap_setCell _ _ _ _ h2]
  have kF : Keeps (Foot D M S) w (((w2.setCell ⟨blk, 0, none⟩ v').setCell ⟨D, 2, none⟩ (.int .i64 (S.ops + 1))).drewN q) := by
    refine Keeps.trans' (F := Foot D M S) (G := fun b => b = blk ∨ b = D) (hk.mono (fun b _ hb => .inr (.inl hb))) ?_ (fun i hi h => ?_)
    · exact ((Keeps.setCell _ _ _ (fun _ => .inl rfl)).trans (Keeps.setCell _ _ _ (fun _ => .inr rfl))).trans (Keeps.drewN _ _ _)
    · rcases h with rfl | rfl
      · omega
      · exact .inl rfl
  have hfs : ∀ t g, (appendedNew S s blk v' l).fs t = some g → (t = s ∧ g = { blk := blk, v := v', bytes := l, syn := 0 }) ∨ (t ≠ s ∧ S.fs t = some g) := by
    intro t g hg
    simp only [appendedNew, upd] at hg
    by_cases hts : t = s
    · rw [if_pos hts] at hg; cases hg; exact .inl ⟨hts, rfl⟩
    · rw [if_neg hts] at hg; exact .inr ⟨hts, hg⟩
  refine ⟨⟨?_, ?_, ?_, ?_, ?_, ?_⟩, ⟨?_, ?_⟩, kF⟩
  · rw [heq]
    have h1 : (w2.setCell ⟨blk, 0, none⟩ v').heap[D]? = w.heap[D]? := by rw [Below.heap_setCell _ _ _ _ hbD.symm]; exact old D hDlt hd.M_ne_D.symm
    rw [heap_setCell_at (h1.trans hd.disk)]
    simp [appendedNew]
  · have e1 : (appendedNew S s blk v' l).ptrs = upd S.ptrs s (some (.pointer (some ⟨blk, 0, none⟩))) := by
      funext t
      simp only [DS.ptrs, appendedNew, upd]
      by_cases hts : t = s
      · rw [if_pos hts, if_pos hts]; rfl
      · rw [if_neg hts, if_neg hts]
    rw [e1]
    exact hm.kept (by rw [heq]; exact far M hd.M_ne_D (by omega))
  · intro t g hg
    rw [heq]
    rcases hfs t g hg with ⟨rfl, rfl⟩ | ⟨hts, hg⟩
    · rw [Below.heap_setCell _ _ _ _ hbD, heap_setCell_at hb]
      simp
    · have := hd.blk_lt hg
      rw [far g.blk (hd.blk_ne_D hg) (by omega), old g.blk (hd.blk_lt hg) (hd.blk_ne_M hg)]
      exact hd.file t g hg
  · intro t g hg
    rcases hfs t g hg with ⟨rfl, rfl⟩ | ⟨hts, hg⟩
    · exact Nat.zero_le _
    · exact hd.syn t g hg
  · refine ⟨hd.lo.1, hd.lo.2.1, fun t g hg => ?_⟩
    rcases hfs t g hg with ⟨rfl, rfl⟩ | ⟨hts, hg⟩
    · exact Nat.le_trans hbase hblk
    · exact hd.lo.2.2 t g hg
  · intro t u g g' hg hg' e
    rcases hfs t g hg with ⟨rfl, rfl⟩ | ⟨hts, hg2⟩ <;> rcases hfs u g' hg' with ⟨rfl, rfl⟩ | ⟨hus, hg2'⟩
    · rfl
    · have := hd.blk_lt hg2'
      simp only at e; omega
    · have := hd.blk_lt hg2
      simp only at e; omega
    · exact hd.inj t u g g' hg2 hg2' e
  · intro t g hg
    rcases hfs t g hg with ⟨rfl, rfl⟩ | ⟨hts, hg⟩
    · refine ownsRow_same hown (fun k hkk => ?_)
      obtain ⟨cur, hc⟩ := ownsRow_cells hown hkk
      have := hloc k hkk
      rw [heq]
      refine far k (by omega) ?_
      rintro rfl
      rw [hb] at hc; simp at hc
    · refine ownsRow_same (ho.row t g hg) (fun k hkk => ?_)
      have rg := hd.row_ne ho hg hkk
      have := ho.lt hg hkk
      rw [heq, far k rg.1 (by omega)]
      exact old k (ho.lt hg hkk) rg.2.1
  · intro t u g g' k hg hg' hk1 hk2
    rcases hfs t g hg with ⟨rfl, rfl⟩ | ⟨hts, hg2⟩ <;> rcases hfs u g' hg' with ⟨rfl, rfl⟩ | ⟨hus, hg2'⟩
    · rfl
    · have := ho.lt hg2' hk2
      have := hloc k hk1
      omega
    · have := ho.lt hg2 hk1
      have := hloc k hk2
      omega
    · exact ho.apart t u g g' k hg2 hg2' hk1 hk2

/-- What Append to a new file comes to. -/
def AppNew (w : World) (base D M : Nat) (S : DS) (s : ByteArray) (l : List UInt8) (w' : World) : Prop :=
  ∃ blk v', DiskIs w' base D M (appendedNew S s blk v' l) ∧ Owned w' base (appendedNew S s blk v' l) ∧ Keeps (Foot D M S) w w' ∧ w.heap.size ≤ blk ∧ ∀ k, v'.ownBlock = some k → w.heap.size ≤ k

end Go.Proofs.Ytigbodokmkpohaa
