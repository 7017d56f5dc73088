/- A disk that is full: what the calls of DiskFull come to. -/
import Derived.Test.YtigbodokmkpohaaR
namespace Go.Proofs.Ytigbodokmkpohaa
open Go.RowKit

def sG : ByteArray := ⟨#[103]⟩
theorem sG_named : Named sG := named_mk [103] (by decide) (by decide) (by decide)

/-- The first k of the files 'f0', 'f1', .. are there, each empty, and nothing else. -/
def Full (w : World) (k : Nat) (w' : World) : Prop :=
  ∃ S, DiskIs w' w.heap.size (w.heap.size + 1) w.heap.size S ∧ Owned w' w.heap.size S ∧ Keeps (fun _ => False) w w' ∧ S.off = false ∧ S.ops = k ∧ S.cutAt = -1 ∧ S.n = k ∧
    (∀ i, i < k → ∃ f, S.fs (fname i) = some f ∧ f.bytes = []) ∧ ∀ s f, S.fs s = some f → ∃ i, i < k ∧ s = fname i

theorem full_start {w w1 : World} (hd : DiskIs w1 w.heap.size (w.heap.size + 1) w.heap.size DS.none) (ho : Owned w1 w.heap.size DS.none) (hk : Keeps (fun _ => False) w w1) : Full w 0 w1 :=
  ⟨DS.none, hd, ho, hk, rfl, rfl, rfl, rfl, fun i hi => by omega, fun s f hf => by cases hf⟩

theorem full_none {S : DS} {k : Nat} (h : ∀ s f, S.fs s = some f → ∃ i, i < k ∧ s = fname i) {s : ByteArray} (hs : ∀ i, i < k → s ≠ fname i) : S.fs s = none := by
  cases hf : S.fs s with
  | none => rfl
  | some f => obtain ⟨i, hi, e⟩ := h s f hf; exact absurd e (hs i hi)

theorem full_step {w w1 : World} {k : Nat} (h : Full w k w1) (hk : k < 1000) :
    Calls Try.prog 7 #[.pointer (some ⟨w.heap.size + 1, 0, none⟩), .string (fname k), .slice none 0 0] w1 fun e w' => e = .returned (.int .i64 0) ∧ Full w (k + 1) w' := by
  obtain ⟨S, hd, ho, hkk, s1, s2, s3, s4, h1, h2⟩ := h
  have hnone : S.fs (fname k) = none := full_none h2 (fun i hi e => by have := fname_inj e; omega)
  refine (append_new w.heap.size (w.heap.size + 1) w.heap.size S (fname k) _ [] _ hd ho (fname_named k (by omega)) hnone (Bytes.nil _) (fun k e => by cases e) (fun k e => by cases e) s1 (by omega) (by omega) (by omega) (by simp) (by have := hkk.size; omega)).mono ?_
  rintro e w' ⟨he, blk, v', r1, r2, r3, r4, r5⟩
  refine ⟨he, appendedNew S (fname k) blk v' [], r1, r2, foot_new hd ho hkk r3, s1, by simp [appendedNew, s2], s3, by simp [appendedNew, s4], fun i hi => ?_, fun s f hf => ?_⟩
  · simp only [appendedNew, upd]
    by_cases e : fname i = fname k
    · rw [if_pos e]; exact ⟨_, rfl, rfl⟩
    · rw [if_neg e]
      exact h1 i (by have : i ≠ k := fun h => e (by rw [h]); omega)
  · simp only [appendedNew, upd] at hf
    by_cases e : s = fname k
    · exact ⟨k, by omega, e⟩
    · rw [if_neg e] at hf
      obtain ⟨i, hi, e⟩ := h2 s f hf
      exact ⟨i, by omega, e⟩

theorem Full.kept {w w1 w2 : World} {k : Nat} (h : Full w k w1) (hk : Keeps (fun _ => False) w1 w2) : Full w k w2 := by
  obtain ⟨S, hd, ho, hkk, r⟩ := h
  exact ⟨S, hd.kept' hk, ho.kept (D := w.heap.size + 1) (M := w.heap.size) (fun b hb => hk.block b (hb.lt hd ho) id), hkk.trans hk, r⟩

theorem Full.keeps {w w1 : World} {k : Nat} (h : Full w k w1) : Keeps (fun _ => False) w w1 := by
  obtain ⟨S, hd, ho, hkk, r⟩ := h
  exact hkk

theorem full_g {w w1 : World} (h : Full w 1000 w1) :
    Calls Try.prog 7 #[.pointer (some ⟨w.heap.size + 1, 0, none⟩), .string sG, .slice none 0 0] w1 fun e w' => e = .returned (.int .i64 1) ∧ Full w 1000 w' := by
  have h0 := h
  obtain ⟨S, hd, ho, hkk, s1, s2, s3, s4, h1, h2⟩ := h
  have hnone : S.fs sG = none := full_none h2 (fun i hi e => fname_ne_g i e.symm)
  refine (append_full w.heap.size (w.heap.size + 1) w.heap.size S sG _ _ hd sG_named hnone s1 (by omega) (by omega)).mono ?_
  rintro e w' ⟨he, hk⟩
  exact ⟨he, h0.kept hk⟩

/-- File 'f' m holds l; blocks of N are none of the disk's. -/
def HasN (w : World) (m : Nat) (l : List UInt8) (N : Nat → Prop) (w' : World) : Prop :=
  ∃ S f, DiskIs w' w.heap.size (w.heap.size + 1) w.heap.size S ∧ Owned w' w.heap.size S ∧ Keeps (fun _ => False) w w' ∧ S.off = false ∧ S.ops ≤ 2000 ∧ S.cutAt = -1 ∧ S.n = 1000 ∧
    S.fs (fname m) = some f ∧ f.bytes = l ∧ S.fs sG = none ∧ ∀ b, N b → w.heap.size ≤ b ∧ ¬ Foot (w.heap.size + 1) w.heap.size S b

theorem HasN.keeps {w w1 : World} {m : Nat} {l : List UInt8} {N : Nat → Prop} (h : HasN w m l N w1) : Keeps (fun _ => False) w w1 := by
  obtain ⟨S, f, hd, ho, hkk, r⟩ := h
  exact hkk

theorem HasN.kept {w w1 w2 : World} {m : Nat} {l : List UInt8} {N G : Nat → Prop} (h : HasN w m l N w1) (hk : Keeps G w1 w2) (hg : ∀ b, b < w1.heap.size → G b → N b) : HasN w m l N w2 := by
  obtain ⟨S, f, hd, ho, hkk, s1, s2, s3, s4, hf, hb, hs, hN⟩ := h
  have hfoot : ∀ b, Foot (w.heap.size + 1) w.heap.size S b → w2.heap[b]? = w1.heap[b]? := fun b hb => hk.block b (hb.lt hd ho) (fun g => (hN b (hg b (hb.lt hd ho) g)).2 hb)
  exact ⟨S, f, hd.kept hfoot, ho.kept hfoot, hkk.trans' hk (fun i hi g => by have := (hN i (hg i (by have := hkk.size; omega) g)).1; omega), s1, s2, s3, s4, hf, hb, hs, hN⟩

theorem full_put {w w1 : World} {m : Nat} (h : Full w 1000 w1) (hm : m < 1000) (x : Value) (l : List UInt8) (w2 : World) (hk12 : Keeps (fun _ => False) w1 w2) (hx : Bytes w2 x l) (hxl : ∀ k, x.ownBlock = some k → k < w2.heap.size) (hl : l.length ≤ 140737488355328) :
    Calls Try.prog 7 #[.pointer (some ⟨w.heap.size + 1, 0, none⟩), .string (fname m), x] w2 fun e w' => e = .returned (.int .i64 0) ∧ HasN w m l (fun b => w1.heap.size ≤ b ∧ b < w2.heap.size) w' ∧ ∀ b, w1.heap.size ≤ b → b < w2.heap.size → w'.heap[b]? = w2.heap[b]? := by
  obtain ⟨S, hd1, ho1, hkk1, s1, s2, s3, s4, h1, h2⟩ := h
  obtain ⟨f, hf, hfb⟩ := h1 m hm
  have hsz := hkk1.size
  have hsz2 := hk12.size
  have hd := hd1.kept' hk12
  have ho : Owned w2 w.heap.size S := ho1.kept (D := w.heap.size + 1) (M := w.heap.size) (fun b hb => hk12.block b (hb.lt hd1 ho1) id)
  have hfl : ∀ b, Foot (w.heap.size + 1) w.heap.size S b → b < w1.heap.size := fun b hb => hb.lt hd1 ho1
  refine (append_old w.heap.size (w.heap.size + 1) w.heap.size S (fname m) f x l _ hd ho (fname_named m (by omega)) hf hx hxl s1 (by omega) (by omega) (by rw [hfb]; simpa using hl) (by omega)).mono ?_
  rintro e w' ⟨he, v', r1, r2, r3, r4⟩
  have hg : S.fs sG = none := full_none h2 (fun i hi e => fname_ne_g i e.symm)
  refine ⟨he, ⟨appended S (fname m) f v' l, { f with v := v', bytes := f.bytes ++ l }, r1, r2, foot_new hd ho (hkk1.trans hk12) r3, s1, by simp [appended, s2], s3, s4, by simp [appended, upd], by simp [hfb], ?_, fun b hb => ⟨by omega, fun hF => ?_⟩⟩, fun b hb1 hb2 => r3.block b hb2 (fun hF => by have := hfl b hF; omega)⟩
  · simp only [appended, upd]
    rw [if_neg (fun e => fname_ne_g m e.symm)]
    exact hg
  · rcases hF with rfl | rfl | ⟨s, g, hg2, hor⟩
    · have := hfl _ (.inl rfl); omega
    · have := hfl _ (.inr (.inl rfl)); omega
    · simp only [appended, upd] at hg2
      by_cases e : s = fname m
      · rw [if_pos e] at hg2
        cases hg2
        rcases hor with rfl | hor
        · have := hfl f.blk (.inr (.inr ⟨_, f, hf, .inl rfl⟩)); simp only at hb; omega
        · simp only at hor
          rcases r4 with h | ⟨k, h, hk⟩
          · have := hfl b (.inr (.inr ⟨_, f, hf, .inr (h ▸ hor)⟩)); omega
          · rw [h] at hor; cases hor; omega
      · rw [if_neg e] at hg2
        have := hfl b (.inr (.inr ⟨s, g, hg2, hor⟩)); omega

theorem has_read {w w1 : World} {m : Nat} {l : List UInt8} {N : Nat → Prop} (h : HasN w m l N w1) (hm : m < 1000) (hl : l.length ≤ 140737488355328) :
    Calls Try.prog 10 #[.pointer (some ⟨w.heap.size + 1, 0, none⟩), .string (fname m)] w1 fun e w' => ∃ a' c', e = .returned (.tuple #[.slice a' l.length c', .int .i64 0]) ∧ HasN w m l (fun b => w1.heap.size ≤ b) w' ∧ w'.ownsRow w1.heap.size 5 1 (.slice a' l.length c') l.length (cellsOf l) ∧ Keeps (fun _ => False) w1 w' := by
  obtain ⟨S, f, hd, ho, hkk, s1, s2, s3, s4, hf, hb, hs, hN⟩ := h
  subst hb
  refine (read_some w.heap.size (w.heap.size + 1) w.heap.size S (fname m) f _ hd (Bytes.of_own (ho.row _ _ hf)) (fun k hk => ho.lt hf hk) (fname_named m (by omega)) hf s1 hl).mono ?_
  rintro e w' ⟨a', c', he, r1, r2⟩
  have hsz := hkk.size
  exact ⟨a', c', he, ⟨S, f, hd.kept' r2, ho.kept (D := w.heap.size + 1) (M := w.heap.size) (fun b hb => r2.block b (hb.lt hd ho) id), hkk.trans r2, s1, s2, s3, s4, hf, rfl, hs, fun b hb => ⟨by omega, fun hF => by have := hF.lt hd ho; omega⟩⟩, r1, r2⟩

/-- File 'f' m has gone; there are so many files. -/
def Gone (w : World) (m n : Nat) (N : Nat → Prop) (w' : World) : Prop :=
  ∃ S, DiskIs w' w.heap.size (w.heap.size + 1) w.heap.size S ∧ Owned w' w.heap.size S ∧ Keeps (fun _ => False) w w' ∧ S.off = false ∧ S.ops ≤ 2001 + (n - 999) ∧ S.cutAt = -1 ∧ S.n = n ∧ S.fs (fname m) = none ∧ (n = 999 → S.fs sG = none) ∧ ∀ b, N b → ¬ Foot (w.heap.size + 1) w.heap.size S b

theorem Gone.keeps {w w1 : World} {m n : Nat} {N : Nat → Prop} (h : Gone w m n N w1) : Keeps (fun _ => False) w w1 := by
  obtain ⟨S, hd, ho, hkk, r⟩ := h
  exact hkk

theorem has_remove {w w1 : World} {m : Nat} {l : List UInt8} {N : Nat → Prop} (h : HasN w m l N w1) (hm : m < 1000) :
    Calls Try.prog 11 #[.pointer (some ⟨w.heap.size + 1, 0, none⟩), .string (fname m)] w1 fun e w' => e = .returned (.int .i64 0) ∧ Gone w m 999 N w' ∧ ∀ b, N b → b < w1.heap.size → w'.heap[b]? = w1.heap[b]? := by
  obtain ⟨S, f, hd, ho, hkk, s1, s2, s3, s4, hf, hb, hs, hN⟩ := h
  refine (remove_some w.heap.size (w.heap.size + 1) w.heap.size S (fname m) f _ hd ho (fname_named m (by omega)) hf s1 (by omega) (by omega)).mono ?_
  rintro e w' ⟨he, r1, r2, r3⟩
  refine ⟨he, ⟨_, r1, r2, foot_new hd ho hkk r3, s1, by simp [removed]; omega, s3, by simp [removed, s4], upd_same _ _ _, fun _ => ?_, fun b hb hF => ?_⟩, fun b hb hl => r3.block b hl (hN b hb).2⟩
  · simp only [removed, upd]
    rw [if_neg (fun e => fname_ne_g m e.symm)]
    exact hs
  · refine (hN b hb).2 ?_
    rcases hF with h | h | ⟨s, g, hg, hor⟩
    · exact .inl h
    · exact .inr (.inl h)
    · simp only [removed, upd] at hg
      by_cases e : s = fname m
      · rw [if_pos e] at hg; cases hg
      · rw [if_neg e] at hg; exact .inr (.inr ⟨s, g, hg, hor⟩)

theorem gone_fits {w w1 : World} {m : Nat} {N : Nat → Prop} (h : Gone w m 999 N w1) :
    Calls Try.prog 7 #[.pointer (some ⟨w.heap.size + 1, 0, none⟩), .string sG, .slice none 0 0] w1 fun e w' => e = .returned (.int .i64 0) ∧ Gone w m 1000 (fun _ => False) w' ∧ ∀ b, N b → b < w1.heap.size → w'.heap[b]? = w1.heap[b]? := by
  obtain ⟨S, hd, ho, hkk, s1, s2, s3, s4, hf, hs, hN⟩ := h
  refine (append_new w.heap.size (w.heap.size + 1) w.heap.size S sG _ [] _ hd ho sG_named (hs rfl) (Bytes.nil _) (fun k e => by cases e) (fun k e => by cases e) s1 (by omega) (by omega) (by omega) (by simp) (by have := hkk.size; omega)).mono ?_
  rintro e w' ⟨he, blk, v', r1, r2, r3, r4, r5⟩
  refine ⟨he, ⟨appendedNew S sG blk v' [], r1, r2, foot_new hd ho hkk r3, s1, (show S.ops + 1 ≤ 2001 + (1000 - 999) by omega), s3, by simp [appendedNew, s4], ?_, (fun h => by omega), fun b hb => hb.elim⟩, fun b hb hl => r3.block b hl (hN b hb)⟩
  simp only [appendedNew, upd]
  rw [if_neg (show ¬ fname m = sG from fname_ne_g m)]
  exact hf

theorem gone_full {w w1 : World} {m : Nat} {N : Nat → Prop} (h : Gone w m 1000 N w1) (hm : m < 1000) :
    Calls Try.prog 7 #[.pointer (some ⟨w.heap.size + 1, 0, none⟩), .string (fname m), .slice none 0 0] w1 fun e w' => e = .returned (.int .i64 1) ∧ Keeps (fun _ => False) w1 w' := by
  obtain ⟨S, hd, ho, hkk, s1, s2, s3, s4, hf, hs, hN⟩ := h
  exact append_full w.heap.size (w.heap.size + 1) w.heap.size S (fname m) _ _ hd (fname_named m (by omega)) hf s1 (by omega) (by omega)

end Go.Proofs.Ytigbodokmkpohaa
