/- A disk's calls, each as one contract: it goes on, or the power goes off. -/
import Derived.Test.YtigbodokmkpohaaZ
namespace Go.Proofs.Ytigbodokmkpohaa
open Go.RowKit

/-- A disk that is on, behind at most k calls: these files are there. -/
structure DGood (w : World) (base D M : Nat) (S : DS) (P : ByteArray → Prop) (k : Nat) : Prop where
  is : DiskIs w base D M S
  own : Owned w base S
  off : S.off = false
  ops : S.ops ≤ k
  n : S.n ≤ k
  part : -9223372036854775808 ≤ S.part ∧ S.part ≤ 9223372036854775807
  there : ∀ s, (∃ f, S.fs s = some f) ↔ P s
  len : ∀ s f, S.fs s = some f → f.bytes.length ≤ k * 1048576

theorem DGood.none {w : World} {base D M : Nat} {S : DS} {P : ByteArray → Prop} {k : Nat} (h : DGood w base D M S P k) {s : ByteArray} (hs : ¬ P s) : S.fs s = none := by
  cases hf : S.fs s with
  | none => rfl
  | some f => exact absurd ((h.there s).1 ⟨f, hf⟩) hs

theorem DGood.len47 {w : World} {base D M : Nat} {S : DS} {P : ByteArray → Prop} {k : Nat} (h : DGood w base D M S P k) (hk : k ≤ 100) : ∀ s f, S.fs s = some f → f.bytes.length ≤ 140737488355328 := fun s f hf => by
  have := h.len s f hf
  omega

/-- A counted call: it goes on, or the power goes off. -/
def DRes (w : World) (base D M : Nat) (S : DS) (P' : ByteArray → Prop) (k : Nat) (r : Int) (w' : World) : Prop :=
  Keeps (Foot D M S) w w' ∧
    ((r = 0 ∧ (S.ops : Int) ≠ S.cutAt ∧ ∃ S', DGood w' base D M S' P' (k + 1) ∧ S'.ops = S.ops + 1 ∧ S'.cutAt = S.cutAt ∧ ∀ b, Foot D M S' b → Foot D M S b ∨ w.heap.size ≤ b) ∨
     (r = 122 ∧ S.cutAt = S.ops ∧ ∃ x3 x4, w'.heap[D]? = some (.cells #[.map (some M), .bool true, .int .i64 (S.ops + 1), x3, x4] 49 (0, 0))))

theorem dead_res {w w' : World} {base D M : Nat} {S : DS} {P' : ByteArray → Prop} {k : Nat} (hat : S.cutAt = S.ops) (h : Dead w D M S w') : DRes w base D M S P' k 122 w' := ⟨h.2, .inr ⟨rfl, hat, h.1⟩⟩

theorem foot_upd {D M : Nat} {S S' : DS} {N : Nat} (h : ∀ s f, S'.fs s = some f → ((∃ t g, S.fs t = some g ∧ g.blk = f.blk) ∨ N ≤ f.blk) ∧ ((∃ t g, S.fs t = some g ∧ g.v.ownBlock = f.v.ownBlock) ∨ ∀ k, f.v.ownBlock = some k → N ≤ k)) (b : Nat) (hb : Foot D M S' b) : Foot D M S b ∨ N ≤ b := by
  rcases hb with h0 | h0 | ⟨s, f, hf, h0⟩
  · exact .inl (.inl h0)
  · exact .inl (.inr (.inl h0))
  · obtain ⟨h1, h2⟩ := h s f hf
    rcases h0 with h0 | h0
    · rcases h1 with ⟨t, g, hg, e⟩ | h1
      · exact .inl (.inr (.inr ⟨t, g, hg, .inl (h0.trans e.symm)⟩))
      · exact .inr (h0 ▸ h1)
    · rcases h2 with ⟨t, g, hg, e⟩ | h2
      · exact .inl (.inr (.inr ⟨t, g, hg, .inr (e.trans h0)⟩))
      · exact .inr (h2 b h0)

theorem upd_some {α : Type} {f : ByteArray → Option α} {s t : ByteArray} {v : Option α} {g : α} (h : upd f s v t = some g) : (t = s ∧ v = some g) ∨ (t ≠ s ∧ f t = some g) := by
  unfold upd at h
  by_cases e : t = s
  · rw [if_pos e] at h; exact .inl ⟨e, h⟩
  · rw [if_neg e] at h; exact .inr ⟨e, h⟩

theorem app_res (base D M : Nat) (S : DS) (P : ByteArray → Prop) (k : Nat) (s : ByteArray) (x : Value) (l : List UInt8) (w : World) (h : DGood w base D M S P k) (hk : k ≤ 100) (hs : Named s) (hx : Bytes w x l) (hxl : l ≠ [] → ∀ k, x.ownBlock = some k → k < w.heap.size) (hxM : l ≠ [] → ∀ k, x.ownBlock = some k → k ≠ M)
    (hl : l.length ≤ 1048576) (hbase : base ≤ w.heap.size) :
    Calls Try.prog 7 #[.pointer (some ⟨D, 0, none⟩), .string s, x] w fun e w' => ∃ r, e = .returned (.int .i64 r) ∧ DRes w base D M S (fun t => P t ∨ t = s) k r w' := by
  have hops := h.ops
  have hn := h.n
  by_cases hat : S.cutAt = S.ops
  · cases hf : S.fs s with
    | none => exact (append_new_cut base D M S s x l w h.is h.own hs hf hx hxl hxM h.off (by omega) (by omega) hat h.part (h.len47 hk) (by omega) hbase).mono fun e w' r => ⟨_, r.1, dead_res hat r.2⟩
    | some f =>
      have := h.len s f hf
      exact (append_old_cut base D M S s f x l w h.is h.own hs hf hx hxl h.off (by omega) hat h.part (h.len47 hk) (by omega) hbase).mono fun e w' r => ⟨_, r.1, dead_res hat r.2⟩
  · have hat' : (S.ops : Int) ≠ S.cutAt := fun e => hat e.symm
    cases hf : S.fs s with
    | none =>
      refine (append_new0 base D M S s x l w h.is h.own hs hf hx hxl hxM h.off (by omega) (by omega) hat' (by omega) hbase).mono ?_
      rintro e w' ⟨he, blk, v', r1, r2, r3, r4, r5⟩
      refine ⟨0, he, r3, .inl ⟨rfl, hat', _, ⟨r1, r2, h.off, Nat.succ_le_succ h.ops, Nat.succ_le_succ h.n, h.part, fun t => ?_, fun t g hg => ?_⟩, rfl, rfl, foot_upd fun t g hg => ?_⟩⟩
      · constructor
        · rintro ⟨g, hg⟩
          rcases upd_some hg with ⟨e, _⟩ | ⟨_, hg⟩
          · exact .inr e
          · exact .inl ((h.there t).1 ⟨g, hg⟩)
        · intro hp
          by_cases e : t = s
          · exact ⟨_, by simp only [appendedNew, upd]; rw [if_pos e]⟩
          · obtain ⟨g, hg⟩ := (h.there t).2 (hp.resolve_right e)
            exact ⟨g, by simp only [appendedNew, upd]; rw [if_neg e]; exact hg⟩
      · rcases upd_some hg with ⟨_, hg⟩ | ⟨_, hg⟩
        · cases hg; simp only; omega
        · exact Nat.le_trans (h.len t g hg) (Nat.mul_le_mul_right _ (Nat.le_succ k))
      · rcases upd_some hg with ⟨_, hg⟩ | ⟨_, hg⟩
        · cases hg; exact ⟨.inr r4, .inr r5⟩
        · exact ⟨.inl ⟨t, g, hg, rfl⟩, .inl ⟨t, g, hg, rfl⟩⟩
    | some f =>
      have hfl := h.len s f hf
      refine (append_old0 base D M S s f x l w h.is h.own hs hf hx hxl h.off (by omega) hat' (by omega) hbase).mono ?_
      rintro e w' ⟨he, v', r1, r2, r3, r4⟩
      refine ⟨0, he, r3, .inl ⟨rfl, hat', _, ⟨r1, r2, h.off, Nat.succ_le_succ h.ops, Nat.le_succ_of_le h.n, h.part, fun t => ?_, fun t g hg => ?_⟩, rfl, rfl, foot_upd fun t g hg => ?_⟩⟩
      · constructor
        · rintro ⟨g, hg⟩
          rcases upd_some hg with ⟨e, _⟩ | ⟨_, hg⟩
          · exact .inr e
          · exact .inl ((h.there t).1 ⟨g, hg⟩)
        · intro hp
          by_cases e : t = s
          · exact ⟨_, by simp only [appended, upd]; rw [if_pos e]⟩
          · obtain ⟨g, hg⟩ := (h.there t).2 (hp.resolve_right e)
            exact ⟨g, by simp only [appended, upd]; rw [if_neg e]; exact hg⟩
      · rcases upd_some hg with ⟨_, hg⟩ | ⟨_, hg⟩
        · cases hg; simp only [List.length_append]; omega
        · exact Nat.le_trans (h.len t g hg) (Nat.mul_le_mul_right _ (Nat.le_succ k))
      · rcases upd_some hg with ⟨_, hg⟩ | ⟨_, hg⟩
        · cases hg
          refine ⟨.inl ⟨s, f, hf, rfl⟩, ?_⟩
          rcases r4 with r4 | ⟨k', r4, hk'⟩
          · exact .inl ⟨s, f, hf, r4.symm⟩
          · exact .inr fun k e => by rw [show k = k' from Option.some.inj (e.symm.trans r4)]; exact hk'
        · exact ⟨.inl ⟨t, g, hg, rfl⟩, .inl ⟨t, g, hg, rfl⟩⟩

theorem sync_res (base D M : Nat) (S : DS) (P : ByteArray → Prop) (k : Nat) (s : ByteArray) (w : World) (h : DGood w base D M S P k) (hk : k ≤ 100) (hs : Named s) (hp : P s) :
    Calls Try.prog 16 #[.pointer (some ⟨D, 0, none⟩), .string s] w fun e w' => ∃ r, e = .returned (.int .i64 r) ∧ DRes w base D M S P k r w' := by
  have hops := h.ops
  have hn := h.n
  obtain ⟨f, hf⟩ := (h.there s).2 hp
  have hfl := h.len s f hf
  by_cases hat : S.cutAt = S.ops
  · exact (sync_cut base D M S s f w h.is h.own hs hf h.off (by omega) hat h.part (h.len47 hk) (by omega)).mono fun e w' r => ⟨_, r.1, dead_res hat r.2⟩
  · have hat' : (S.ops : Int) ≠ S.cutAt := fun e => hat e.symm
    refine (sync_some base D M S s f w h.is h.own hs hf h.off (by omega) hat' (by omega)).mono ?_
    rintro e w' ⟨he, r1, r2, r3⟩
    refine ⟨0, he, r3, .inl ⟨rfl, hat', _, ⟨r1, r2, h.off, Nat.succ_le_succ h.ops, Nat.le_succ_of_le h.n, h.part, fun t => ?_, fun t g hg => ?_⟩, rfl, rfl, foot_upd fun t g hg => ?_⟩⟩
    · constructor
      · rintro ⟨g, hg⟩
        rcases upd_some hg with ⟨e, _⟩ | ⟨_, hg⟩
        · exact e ▸ hp
        · exact (h.there t).1 ⟨g, hg⟩
      · intro hp
        by_cases e : t = s
        · exact ⟨_, by simp only [synced, upd]; rw [if_pos e]⟩
        · obtain ⟨g, hg⟩ := (h.there t).2 hp
          exact ⟨g, by simp only [synced, upd]; rw [if_neg e]; exact hg⟩
    · rcases upd_some hg with ⟨_, hg⟩ | ⟨_, hg⟩
      · cases hg; exact Nat.le_trans hfl (Nat.mul_le_mul_right _ (Nat.le_succ k))
      · exact Nat.le_trans (h.len t g hg) (Nat.mul_le_mul_right _ (Nat.le_succ k))
    · rcases upd_some hg with ⟨_, hg⟩ | ⟨_, hg⟩
      · cases hg; exact ⟨.inl ⟨s, f, hf, rfl⟩, .inl ⟨s, f, hf, rfl⟩⟩
      · exact ⟨.inl ⟨t, g, hg, rfl⟩, .inl ⟨t, g, hg, rfl⟩⟩

theorem rem_res (base D M : Nat) (S : DS) (P : ByteArray → Prop) (k : Nat) (s : ByteArray) (w : World) (h : DGood w base D M S P k) (hk : k ≤ 100) (hs : Named s) (hp : P s) :
    Calls Try.prog 11 #[.pointer (some ⟨D, 0, none⟩), .string s] w fun e w' => ∃ r, e = .returned (.int .i64 r) ∧ DRes w base D M S (fun t => P t ∧ t ≠ s) k r w' := by
  have hops := h.ops
  have hn := h.n
  obtain ⟨f, hf⟩ := (h.there s).2 hp
  have hfl := h.len s f hf
  by_cases hat : S.cutAt = S.ops
  · exact (remove_cut base D M S s f w h.is h.own hs hf h.off (by omega) hat h.part (h.len47 hk)).mono fun e w' r => ⟨_, r.1, dead_res hat r.2⟩
  · have hat' : (S.ops : Int) ≠ S.cutAt := fun e => hat e.symm
    refine (remove_some base D M S s f w h.is h.own hs hf h.off (by omega) hat').mono ?_
    rintro e w' ⟨he, r1, r2, r3⟩
    refine ⟨0, he, r3, .inl ⟨rfl, hat', _, ⟨r1, r2, h.off, Nat.succ_le_succ h.ops, by simp only [removed]; omega, h.part, fun t => ?_, fun t g hg => ?_⟩, rfl, rfl, foot_upd fun t g hg => ?_⟩⟩
    · constructor
      · rintro ⟨g, hg⟩
        rcases upd_some hg with ⟨_, hg⟩ | ⟨e, hg⟩
        · cases hg
        · exact ⟨(h.there t).1 ⟨g, hg⟩, e⟩
      · rintro ⟨hp, e⟩
        obtain ⟨g, hg⟩ := (h.there t).2 hp
        exact ⟨g, by simp only [removed, upd]; rw [if_neg e]; exact hg⟩
    · rcases upd_some hg with ⟨_, hg⟩ | ⟨_, hg⟩
      · cases hg
      · exact Nat.le_trans (h.len t g hg) (Nat.mul_le_mul_right _ (Nat.le_succ k))
    · rcases upd_some hg with ⟨_, hg⟩ | ⟨_, hg⟩
      · cases hg
      · exact ⟨.inl ⟨t, g, hg, rfl⟩, .inl ⟨t, g, hg, rfl⟩⟩

theorem ren_res (base D M : Nat) (S : DS) (P : ByteArray → Prop) (k : Nat) (s t : ByteArray) (w : World) (h : DGood w base D M S P k) (hk : k ≤ 100) (hs : Named s) (ht : Named t) (hp : P s) :
    Calls Try.prog 27 #[.pointer (some ⟨D, 0, none⟩), .string s, .string t] w fun e w' => ∃ r, e = .returned (.int .i64 r) ∧ DRes w base D M S (fun x => (P x ∧ x ≠ s) ∨ x = t) k r w' := by
  have hops := h.ops
  have hn := h.n
  obtain ⟨f, hf⟩ := (h.there s).2 hp
  have hfl := h.len s f hf
  by_cases hat : S.cutAt = S.ops
  · exact (rename_cut base D M S s t f w h.is h.own hs ht hf h.off (by omega) hat h.part (h.len47 hk)).mono fun e w' r => ⟨_, r.1, dead_res hat r.2⟩
  · have hat' : (S.ops : Int) ≠ S.cutAt := fun e => hat e.symm
    refine (rename_some base D M S s t f w h.is h.own hs ht hf h.off (by omega) hat').mono ?_
    rintro e w' ⟨he, r1, r2, r3⟩
    refine ⟨0, he, r3, .inl ⟨rfl, hat', _, ⟨r1, r2, h.off, Nat.succ_le_succ h.ops, by simp only [renamed, renCount]; split <;> omega, h.part, fun x => ?_, fun x g hg => ?_⟩, rfl, rfl, foot_upd fun x g hg => ?_⟩⟩
    · constructor
      · rintro ⟨g, hg⟩
        rcases upd_some hg with ⟨e, _⟩ | ⟨e, hg⟩
        · exact .inr e
        · rcases upd_some hg with ⟨_, hg⟩ | ⟨e, hg⟩
          · cases hg
          · exact .inl ⟨(h.there x).1 ⟨g, hg⟩, e⟩
      · intro hp
        by_cases e : x = t
        · exact ⟨_, by simp only [renamed, upd]; rw [if_pos e]⟩
        · obtain ⟨hp, e2⟩ := hp.resolve_right e
          obtain ⟨g, hg⟩ := (h.there x).2 hp
          exact ⟨g, by simp only [renamed, upd]; rw [if_neg e, if_neg e2]; exact hg⟩
    · rcases upd_some hg with ⟨_, hg⟩ | ⟨_, hg⟩
      · cases hg; exact Nat.le_trans hfl (Nat.mul_le_mul_right _ (Nat.le_succ k))
      · rcases upd_some hg with ⟨_, hg⟩ | ⟨_, hg⟩
        · cases hg
        · exact Nat.le_trans (h.len x g hg) (Nat.mul_le_mul_right _ (Nat.le_succ k))
    · rcases upd_some hg with ⟨_, hg⟩ | ⟨_, hg⟩
      · cases hg; exact ⟨.inl ⟨s, f, hf, rfl⟩, .inl ⟨s, f, hf, rfl⟩⟩
      · rcases upd_some hg with ⟨_, hg⟩ | ⟨_, hg⟩
        · cases hg
        · exact ⟨.inl ⟨x, g, hg, rfl⟩, .inl ⟨x, g, hg, rfl⟩⟩

end Go.Proofs.Ytigbodokmkpohaa
