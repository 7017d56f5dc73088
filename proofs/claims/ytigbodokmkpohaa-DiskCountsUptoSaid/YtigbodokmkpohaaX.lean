/- The power goes off at an operation: what is left. -/
import Derived.Test.YtigbodokmkpohaaW
namespace Go.Proofs.Ytigbodokmkpohaa
open Go.RowKit

/-- The operation was counted, and the power is off. -/
def Dead (w : World) (D M : Nat) (S : DS) (w' : World) : Prop :=
  (∃ x3 x4, w'.heap[D]? = some (.cells #[.map (some M), .bool true, .int .i64 (S.ops + 1), x3, x4] 49 (0, 0))) ∧ Keeps (Foot D M S) w w'

theorem dead_of {w W : World} {base D M : Nat} {S S' : DS} (hk : Keeps (Foot D M S) w W) (hd : DiskIs W base D M S') (ho : Owned W base S') (hops : S'.ops = S.ops + 1) (hft : ∀ b, b < w.heap.size → Foot D M S' b → Foot D M S b)
    (hp : -9223372036854775808 ≤ S'.part ∧ S'.part ≤ 9223372036854775807) (hl : ∀ s f, S'.fs s = some f → f.bytes.length ≤ 140737488355328) :
    Calls Try.prog 29 #[.pointer (some ⟨D, 0, none⟩), .int .i64 S'.part] W fun e w' => e = .returned (.tuple #[]) ∧ Dead w D M S w' := by
  refine (cut_any base D M S' S'.part W hd ho hp hl).mono ?_
  rintro e w' ⟨he, h1, _, h3⟩
  refine ⟨he, ⟨.int .i64 S'.cutAt, .int .i64 S'.part, ?_⟩, hk.trans' h3 hft⟩
  have := h1.disk
  rw [show (cutS S' S'.part).ops = S'.ops from rfl, hops] at this
  exact_mod_cast this

def ticked (S : DS) : DS := { S with ops := S.ops + 1 }

theorem tick_fin {w W : World} {base D M : Nat} {S : DS} (hd : DiskIs w base D M S) (ho : Owned w base S) (hk : Keeps (fun b => b = D) w W)
    (hD : W.heap[D]? = some (.cells #[.map (some M), .bool S.off, .int .i64 (S.ops + 1), .int .i64 S.cutAt, .int .i64 S.part] 49 (0, 0))) :
    DiskIs W base D M (ticked S) ∧ Owned W base (ticked S) ∧ Keeps (Foot D M S) w W := by
  refine ⟨⟨?_, hd.map.kept (hk.block M hd.map.lt hd.M_ne_D), fun t g hg => (hk.block g.blk (hd.blk_lt hg) (hd.blk_ne_D hg)).trans (hd.file t g hg), hd.syn, hd.lo, hd.inj⟩, ⟨fun t g hg => ?_, ho.apart⟩, hk.mono fun b _ h => .inl h⟩
  · rw [show (ticked S).ops = S.ops + 1 from rfl]; exact_mod_cast hD
  · exact ownsRow_same (ho.row t g hg) (fun k hkk => hk.block k (ho.lt hg hkk) (hd.row_ne ho hg hkk).1)

theorem foot_appended {w : World} {D M : Nat} {S : DS} {s : ByteArray} {f : DF} {v' : Value} {l : List UInt8} (hf : S.fs s = some f) (hv : v'.ownBlock = f.v.ownBlock ∨ ∃ k, v'.ownBlock = some k ∧ w.heap.size ≤ k) (b : Nat) (hb : b < w.heap.size) (h : Foot D M (appended S s f v' l) b) : Foot D M S b := by
  rcases h with h | h | ⟨t, g, hg, h⟩
  · exact .inl h
  · exact .inr (.inl h)
  · simp only [appended, upd] at hg
    by_cases hts : t = s
    · rw [if_pos hts] at hg
      cases hg
      rcases h with h | h
      · exact .inr (.inr ⟨s, f, hf, .inl h⟩)
      · rcases hv with hv | ⟨k, hv, hk⟩
        · exact .inr (.inr ⟨s, f, hf, .inr (hv ▸ h)⟩)
        · rw [show b = k from Option.some.inj (h.symm.trans hv)] at hb; omega
    · rw [if_neg hts] at hg
      exact .inr (.inr ⟨t, g, hg, h⟩)

theorem foot_appendedNew {w : World} {D M blk : Nat} {S : DS} {s : ByteArray} {v' : Value} {l : List UInt8} (hblk : w.heap.size ≤ blk) (hv : ∀ k, v'.ownBlock = some k → w.heap.size ≤ k) (b : Nat) (hb : b < w.heap.size) (h : Foot D M (appendedNew S s blk v' l) b) : Foot D M S b := by
  rcases h with h | h | ⟨t, g, hg, h⟩
  · exact .inl h
  · exact .inr (.inl h)
  · simp only [appendedNew, upd] at hg
    by_cases hts : t = s
    · rw [if_pos hts] at hg
      cases hg
      rcases h with h | h
      · simp only at h; omega
      · have := hv b h; omega
    · rw [if_neg hts] at hg
      exact .inr (.inr ⟨t, g, hg, h⟩)

end Go.Proofs.Ytigbodokmkpohaa
