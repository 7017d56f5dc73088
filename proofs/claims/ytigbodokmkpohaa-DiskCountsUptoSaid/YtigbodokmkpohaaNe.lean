/- Remove and Rename, noted. -/
import Derived.Test.YtigbodokmkpohaaNd
namespace Go.Proofs.Ytigbodokmkpohaa
open Go.RowKit

theorem nodup_at {l : List ByteArray} (h : l.Nodup) {p q : Nat} {x : ByteArray} (hp : l[p]? = some x) (hq : l[q]? = some x) : p = q := by
  obtain ⟨h1, h2⟩ := List.getElem?_eq_some_iff.1 hp
  obtain ⟨h3, h4⟩ := List.getElem?_eq_some_iff.1 hq
  have hpw := List.pairwise_iff_getElem.1 h
  rcases Nat.lt_trichotomy p q with hlt | heq | hgt
  · exact absurd (h2.trans h4.symm) (hpw p q h1 h3 hlt)
  · exact heq
  · exact absurd (h4.trans h2.symm) (hpw q p h3 h1 hgt)

theorem nodup_of {l : List ByteArray} (h : ∀ (p q : Nat) (x : ByteArray), l[p]? = some x → l[q]? = some x → p = q) : l.Nodup := by
  refine List.pairwise_iff_getElem.2 ?_
  intro i j hi hj hij e
  have := h i j l[i] (List.getElem?_eq_getElem hi) ((List.getElem?_eq_getElem hj).trans (by rw [e]))
  omega

theorem mem_erase_at {l : List ByteArray} (h : l.Nodup) {i : Nat} {s : ByteArray} (hi : l[i]? = some s) (x : ByteArray) : x ∈ l.eraseIdx i ↔ x ∈ l ∧ x ≠ s := by
  rw [List.mem_eraseIdx_iff_getElem?]
  constructor
  · rintro ⟨p, hp, hx⟩
    exact ⟨List.mem_of_getElem? hx, fun e => hp (nodup_at h hx (e ▸ hi))⟩
  · rintro ⟨hx, hne⟩
    obtain ⟨p, hp⟩ := List.mem_iff_getElem?.1 hx
    exact ⟨p, fun e => hne (Option.some.inj (hp.symm.trans (e ▸ hi))), hp⟩

theorem nodup_erase {l : List ByteArray} (h : l.Nodup) (i : Nat) : (l.eraseIdx i).Nodup := h.sublist (List.eraseIdx_sublist _ _)

theorem mem_set_at {l : List ByteArray} (h : l.Nodup) {i : Nat} {s : ByteArray} (hi : l[i]? = some s) (t x : ByteArray) : x ∈ l.set i t ↔ (x ∈ l ∧ x ≠ s) ∨ x = t := by
  have hl := (List.getElem?_eq_some_iff.1 hi).1
  constructor
  · intro hx
    obtain ⟨p, hp⟩ := List.mem_iff_getElem?.1 hx
    rw [List.getElem?_set] at hp
    by_cases e : i = p
    · rw [if_pos e, if_pos hl] at hp; exact .inr (Option.some.inj hp).symm
    · rw [if_neg e] at hp
      exact .inl ⟨List.mem_of_getElem? hp, fun e2 => e (nodup_at h hi (e2 ▸ hp))⟩
  · rintro (⟨hx, hne⟩ | rfl)
    · obtain ⟨p, hp⟩ := List.mem_iff_getElem?.1 hx
      have : i ≠ p := fun e => hne (Option.some.inj (hp.symm.trans (e ▸ hi)))
      exact List.mem_of_getElem? (i := p) (by rw [List.getElem?_set, if_neg this]; exact hp)
    · exact List.mem_of_getElem? (i := i) (by rw [List.getElem?_set, if_pos rfl, if_pos hl])

theorem nodup_set {l : List ByteArray} (h : l.Nodup) (i : Nat) {t : ByteArray} (ht : t ∉ l) : (l.set i t).Nodup := by
  refine nodup_of fun p q x hp hq => ?_
  rw [List.getElem?_set] at hp hq
  by_cases e1 : i = p <;> by_cases e2 : i = q
  · omega
  · rw [if_pos e1] at hp; rw [if_neg e2] at hq
    by_cases e3 : i < l.length
    · rw [if_pos e3] at hp; cases hp; exact absurd (List.mem_of_getElem? hq) ht
    · rw [if_neg e3] at hp; cases hp
  · rw [if_neg e1] at hp; rw [if_pos e2] at hq
    by_cases e3 : i < l.length
    · rw [if_pos e3] at hq; cases hq; exact absurd (List.mem_of_getElem? hp) ht
    · rw [if_neg e3] at hq; cases hq
  · rw [if_neg e1] at hp; rw [if_neg e2] at hq; exact nodup_at h hp hq

/-- One name is turned to another that is there too; the other's own place is taken out. -/
theorem onto_mem {l : List ByteArray} (h : l.Nodup) {i j : Nat} {s t : ByteArray} (hi : l[i]? = some s) (hj : l[j]? = some t) (hst : s ≠ t) (x : ByteArray) : x ∈ (l.set i t).eraseIdx j ↔ (x ∈ l ∧ x ≠ s) ∨ x = t := by
  have hl := (List.getElem?_eq_some_iff.1 hi).1
  have hij : i ≠ j := fun e => hst (Option.some.inj (hi.symm.trans (e ▸ hj)))
  rw [List.mem_eraseIdx_iff_getElem?]
  constructor
  · rintro ⟨p, hp, hx⟩
    exact (mem_set_at h hi t x).1 (List.mem_of_getElem? hx)
  · rintro (⟨hx, hne⟩ | rfl)
    · by_cases hxt : x = t
      · subst hxt
        exact ⟨i, hij, by rw [List.getElem?_set, if_pos rfl, if_pos hl]⟩
      · obtain ⟨p, hp⟩ := List.mem_iff_getElem?.1 hx
        have h1 : i ≠ p := fun e => hne (Option.some.inj (hp.symm.trans (e ▸ hi)))
        exact ⟨p, fun e => hxt (Option.some.inj (hp.symm.trans (e ▸ hj))), by rw [List.getElem?_set, if_neg h1]; exact hp⟩
    · exact ⟨i, hij, by rw [List.getElem?_set, if_pos rfl, if_pos hl]⟩

theorem onto_nodup {l : List ByteArray} (h : l.Nodup) {i j : Nat} {t : ByteArray} (hj : l[j]? = some t) : ((l.set i t).eraseIdx j).Nodup := by
  refine nodup_of fun p q x hp hq => ?_
  rw [List.getElem?_eraseIdx] at hp hq
  have key : ∀ p' q', p' ≠ j → q' ≠ j → (l.set i t)[p']? = some x → (l.set i t)[q']? = some x → p' = q' := by
    intro p' q' np nq hp hq
    rw [List.getElem?_set] at hp hq
    by_cases e1 : i = p' <;> by_cases e2 : i = q'
    · omega
    · rw [if_pos e1] at hp; rw [if_neg e2] at hq
      by_cases e3 : i < l.length
      · rw [if_pos e3] at hp; cases hp; exact absurd (nodup_at h hq hj) nq
      · rw [if_neg e3] at hp; cases hp
    · rw [if_neg e1] at hp; rw [if_pos e2] at hq
      by_cases e3 : i < l.length
      · rw [if_pos e3] at hq; cases hq; exact absurd (nodup_at h hp hj) np
      · rw [if_neg e3] at hq; cases hq
    · rw [if_neg e1] at hp; rw [if_neg e2] at hq; exact nodup_at h hp hq
  by_cases h1 : p < j <;> by_cases h2 : q < j
  · rw [if_pos h1] at hp; rw [if_pos h2] at hq; exact key p q (by omega) (by omega) hp hq
  · rw [if_pos h1] at hp; rw [if_neg h2] at hq; have := key p (q + 1) (by omega) (by omega) hp hq; omega
  · rw [if_neg h1] at hp; rw [if_pos h2] at hq; have := key (p + 1) q (by omega) (by omega) hp hq; omega
  · rw [if_neg h1] at hp; rw [if_neg h2] at hq; have := key (p + 1) (q + 1) (by omega) (by omega) hp hq; omega

theorem erase_size {l : List ByteArray} {N : Nat} (h : ∀ b ∈ l, b.size ≤ N) (i : Nat) : ∀ b ∈ l.eraseIdx i, b.size ≤ N := fun b hb => h b (List.mem_of_mem_eraseIdx hb)

set_option maxHeartbeats 800000 in
theorem note_rem_none (base K D M : Nat) (S : DS) (bn bb : List ByteArray) (bs : List Int) (v0 v1 v2 : Value) (P : ByteArray → Prop) (k : Nat) (kd n : Int) (a b : ByteArray) (x : Value) (w : World) (hb : BGood w base K bn bb bs v0 v1 v2 P k) (hd : DGood w base D M S P k) (hk : k ≤ 90)
    (hkd : -9223372036854775808 ≤ kd ∧ kd ≤ 9223372036854775807) (ha : a.size ≤ 9223372036854775807) (h3 : absN kd % 6 = 4) (hp : ¬ P (five (a.size % 5))) :
    Calls Try.prog 15 #[.pointer (some ⟨K, 0, none⟩), .pointer (some ⟨D, 0, none⟩), opV kd a b x n] w fun e w' => ∃ r, e = .returned (.bool r) ∧ NRes w base K D M S v0 v1 v2 P (P (five (a.size % 5))) k r w' := by
  unfold opV
  have hO : (w.alloc (.cells #[.int .i64 kd, .string a, .string b, x, .int .i64 n] 44)).heap[w.heap.size]? = some (.cells #[.int .i64 kd, .string a, .string b, x, .int .i64 n] 44 (0, 0)) := (MapKept.heap_alloc _ _).1
  have hK0 : Keeps (fun _ => False) w (w.alloc (.cells #[.int .i64 kd, .string a, .string b, x, .int .i64 n] 44)) := Keeps.alloc _ _ _
  have key : ∀ W, Keeps (fun _ => False) (w.alloc (.cells #[.int .i64 kd, .string a, .string b, x, .int .i64 n] 44)) W → W.heap[w.heap.size]? = some (.cells #[.int .i64 kd, .string a, .string b, x, .int .i64 n] 44 (0, 0)) ∧ Keeps (fun _ => False) w W := fun W hW =>
    ⟨(hW.block _ (by simp) (fun h => h)).trans hO, hK0.trans hW⟩
  have HKEY := Lib.hid key
  have HB := Lib.hid hb
  have HD := Lib.hid hd
  have HP := Lib.hid hp
  have hm : ((absN kd : Nat) : Int) % 6 = 4 := by omega
  obtain ⟨m, hmm⟩ : ∃ m, m = absN kd := ⟨_, rfl⟩
  rw [← hmm] at hm
  have HM := Lib.hid hmm
  clear key hb hd hp hO hK0 h3 hmm
  go_enter Try.func15, Try.ntmps15
  go_wp2_with (first
    | (go_at_call 24; refine (name_is a.size _ ha).mono ?_; rintro e w1 ⟨rfl, hk1⟩; obtain ⟨hO, hK⟩ := HKEY.out _ hk1; have HK := Lib.hid hK; have o0 : w1.cell? ⟨w.heap.size, 0, none⟩ = some (.int .i64 kd) := (by simp [World.cell?, hO]); clear hk1 hO hK)
    | (go_at_call 25; refine (at_none (HB.out.keeps HK.out fun _ _ h => h) (by omega) _ HP.out).mono ?_; rintro e w' ⟨rfl, rfl⟩)
    | (go_at_call 9; refine (abs_is kd _ hkd.1 hkd.2).mono ?_; rintro e w' ⟨rfl, rfl⟩; rw [← HM.out])
    | (go_at_call 11; refine (remove_none base D M S _ _ (HD.out.keeps HK.out fun _ _ h => h).is (five_named _) (HD.out.none HP.out) HD.out.off).mono ?_; rintro e w2 ⟨rfl, hk2⟩; have HK2 := Lib.hid hk2; clear hk2))
  go_ret
  exact ⟨true, rfl, note_none_end (w1 := w) HB.out HD.out (HK.out.trans HK2.out) HP.out⟩

set_option maxHeartbeats 1600000 in
set_option maxRecDepth 100000 in
theorem note_rem_some (base K D M : Nat) (S : DS) (bn bb : List ByteArray) (bs : List Int) (v0 v1 v2 : Value) (P : ByteArray → Prop) (k : Nat) (kd n : Int) (a b : ByteArray) (x : Value) (w : World) (hb : BGood w base K bn bb bs v0 v1 v2 P k) (hd : DGood w base D M S P k) (hk : k ≤ 90) (hbase : base ≤ w.heap.size)
    (hkd : -9223372036854775808 ≤ kd ∧ kd ≤ 9223372036854775807) (ha : a.size ≤ 9223372036854775807) (h3 : absN kd % 6 = 4) (hp : P (five (a.size % 5))) :
    Calls Try.prog 15 #[.pointer (some ⟨K, 0, none⟩), .pointer (some ⟨D, 0, none⟩), opV kd a b x n] w fun e w' => ∃ r, e = .returned (.bool r) ∧ NRes w base K D M S v0 v1 v2 (fun t => P t ∧ t ≠ five (a.size % 5)) (P (five (a.size % 5))) k r w' := by
  unfold opV
  obtain ⟨g0, c0, g1, c1, g2, c2, rfl, rfl, rfl⟩ := hb.is.rows (List.length_pos_of_mem ((hb.mem _).2 hp))
  have hO : (w.alloc (.cells #[.int .i64 kd, .string a, .string b, x, .int .i64 n] 44)).heap[w.heap.size]? = some (.cells #[.int .i64 kd, .string a, .string b, x, .int .i64 n] 44 (0, 0)) := (MapKept.heap_alloc _ _).1
  have hK0 : Keeps (fun _ => False) w (w.alloc (.cells #[.int .i64 kd, .string a, .string b, x, .int .i64 n] 44)) := Keeps.alloc _ _ _
  have key : ∀ W, Keeps (fun _ => False) (w.alloc (.cells #[.int .i64 kd, .string a, .string b, x, .int .i64 n] 44)) W → W.heap[w.heap.size]? = some (.cells #[.int .i64 kd, .string a, .string b, x, .int .i64 n] 44 (0, 0)) ∧ Keeps (fun _ => False) w W := fun W hW =>
    ⟨(hW.block _ (by simp) (fun h => h)).trans hO, hK0.trans hW⟩
  have HKEY := Lib.hid key
  have HB := Lib.hid hb
  have HD := Lib.hid hd
  have HP := Lib.hid hp
  have hm : ((absN kd : Nat) : Int) % 6 = 4 := by omega
  obtain ⟨m, hmm⟩ : ∃ m, m = absN kd := ⟨_, rfl⟩
  rw [← hmm] at hm
  have HM := Lib.hid hmm
  clear key hb hd hp hO hK0 h3 hmm
  go_enter Try.func15, Try.ntmps15
  go_wp2_with (first
    | (go_at_call 24; refine (name_is a.size _ ha).mono ?_; rintro e w1 ⟨rfl, hk1⟩; obtain ⟨hO, hK⟩ := HKEY.out _ hk1; have HK := Lib.hid hK; have o0 : w1.cell? ⟨w.heap.size, 0, none⟩ = some (.int .i64 kd) := (by simp [World.cell?, hO]); clear hk1 hO hK)
    | (go_at_call 25; refine (at_there (HB.out.keeps HK.out fun _ _ h => h) (by omega) _ HP.out).mono ?_; rintro e w' ⟨i, rfl, hi, rfl⟩; have HI := Lib.hid hi; have hi0 := hi.1; clear hi)
    | (go_at_call 9; refine (abs_is kd _ hkd.1 hkd.2).mono ?_; rintro e w' ⟨rfl, rfl⟩; rw [← HM.out])
    | (go_at_call 11; refine (rem_res base D M S P k _ _ (HD.out.keeps HK.out fun _ _ h => h) (by omega) (five_named _) HP.out).mono ?_; rintro e w2 ⟨r, rfl, hres⟩; have HRES := Lib.hid hres; have hb2 := (HB.out.keeps HK.out fun _ _ h => h).keeps hres.1 ((HB.out.keeps HK.out fun _ _ h => h).is.apart_disk (HD.out.keeps HK.out fun _ _ h => h).is (HD.out.keeps HK.out fun _ _ h => h).own); have HB2 := Lib.hid hb2; obtain ⟨_, y, z, hy, d0, d1, d2, d3, d4, d5, d6, d7, d8⟩ := hb2.is.facts hi0; have HY := Lib.hid hy; clear hy hres hb2 o0)
    | (go_at_call 26; refine (out_is base K bn bb bs _ _ _ i _ HB2.out.is (Nat.le_trans HB2.out.len (by omega)) hi0 (Nat.le_trans hbase (Nat.le_trans HK.out.size HRES.out.1.size))).mono ?_; rintro e w3 ⟨rfl, hout⟩; have HOUT := Lib.hid hout; clear hout))
  go_ret
  obtain ⟨u0, u1, u2, hb3, hk3, hf3⟩ := HOUT.out
  have hs := Nat.le_trans HK.out.size HRES.out.1.size
  refine ⟨_, rfl, note_some_end HB.out HD.out HK.out HRES.out hk3 ⟨hb3, nodup_erase HB2.out.nodup i, fun t => ?_, ?_, erase_size HB2.out.more.size i⟩ (fun b h => (hf3 b h).imp id fun h => Nat.le_trans hs h) HP.out ?_⟩
  · rw [mem_erase_at HB2.out.nodup HI.out.2, HB2.out.mem]
  · have := HB2.out.len
    rw [List.length_eraseIdx]; split <;> omega
  · constructor <;> rintro rfl <;> rfl

end Go.Proofs.Ytigbodokmkpohaa
