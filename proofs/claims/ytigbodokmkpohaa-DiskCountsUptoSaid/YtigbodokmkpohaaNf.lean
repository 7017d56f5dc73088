/- Rename, noted. -/
import Derived.Test.YtigbodokmkpohaaNe
namespace Go.Proofs.Ytigbodokmkpohaa
open Go.RowKit

set_option maxHeartbeats 1600000 in
set_option maxRecDepth 100000 in
theorem note_ren_none (base K D M : Nat) (S : DS) (bn bb : List ByteArray) (bs : List Int) (v0 v1 v2 : Value) (P : ByteArray → Prop) (k : Nat) (kd n : Int) (a b s t : ByteArray) (x : Value) (w : World) (hb : BGood w base K bn bb bs v0 v1 v2 P k) (hd : DGood w base D M S P k) (hk : k ≤ 90) (hbase : base ≤ w.heap.size)
    (hkd : -9223372036854775808 ≤ kd ∧ kd ≤ 9223372036854775807) (ha : a.size ≤ 9223372036854775807) (hbs : b.size ≤ 9223372036854775807) (h3 : absN kd % 6 = 5) (hs : s = five (a.size % 5)) (ht : t = five (b.size % 5)) (hp : ¬ P s) :
    Calls Try.prog 15 #[.pointer (some ⟨K, 0, none⟩), .pointer (some ⟨D, 0, none⟩), opV kd a b x n] w fun e w' => ∃ r, e = .returned (.bool r) ∧ NRes w base K D M S v0 v1 v2 P (P s) k r w' := by
  unfold opV
  have hO : (w.alloc (.cells #[.int .i64 kd, .string a, .string b, x, .int .i64 n] 44)).heap[w.heap.size]? = some (.cells #[.int .i64 kd, .string a, .string b, x, .int .i64 n] 44 (0, 0)) := (MapKept.heap_alloc _ _).1
  have hK0 : Keeps (fun _ => False) w (w.alloc (.cells #[.int .i64 kd, .string a, .string b, x, .int .i64 n] 44)) := Keeps.alloc _ _ _
  have key : ∀ W, Keeps (fun _ => False) (w.alloc (.cells #[.int .i64 kd, .string a, .string b, x, .int .i64 n] 44)) W → W.heap[w.heap.size]? = some (.cells #[.int .i64 kd, .string a, .string b, x, .int .i64 n] 44 (0, 0)) ∧ Keeps (fun _ => False) w W := fun W hW =>
    ⟨(hW.block _ (by simp) (fun h => h)).trans hO, hK0.trans hW⟩
  have ns : Named s := hs ▸ five_named _
  have nt : Named t := ht ▸ five_named _
  have HNS := Lib.hid ns
  have HNT := Lib.hid nt
  have HS := Lib.hid hs
  have HT := Lib.hid ht
  have HKEY := Lib.hid key
  have HB := Lib.hid hb
  have HD := Lib.hid hd
  have HP := Lib.hid hp
  have hm : ((absN kd : Nat) : Int) % 6 = 5 := by omega
  obtain ⟨m, hmm⟩ : ∃ m, m = absN kd := ⟨_, rfl⟩
  rw [← hmm] at hm
  have HM := Lib.hid hmm
  clear key hb hd hp hO hK0 h3 hmm hs ht ns nt
  go_enter Try.func15, Try.ntmps15
  go_wp2_with (first
    | (go_at_call 24; have _hg := HK1; refine (name_is b.size _ hbs).mono ?_; rintro e w2 ⟨rfl, hk1⟩; rw [← HT.out]; have HK := Lib.hid (HK1.out.trans hk1); clear hk1 o0 o2)
    | (go_at_call 24; refine (name_is a.size _ ha).mono ?_; rintro e w1 ⟨rfl, hk1⟩; rw [← HS.out]; obtain ⟨hO, hK⟩ := HKEY.out _ hk1; have HK1 := Lib.hid hK; have o0 : w1.cell? ⟨w.heap.size, 0, none⟩ = some (.int .i64 kd) := (by simp [World.cell?, hO]); have o2 : w1.cell? ⟨w.heap.size, 2, none⟩ = some (.string b) := (by simp [World.cell?, hO]); clear hk1 hO hK)
    | (go_at_call 25; refine (at_none (HB.out.keeps HK1.out fun _ _ h => h) (by omega) s HP.out).mono ?_; rintro e w' ⟨rfl, rfl⟩)
    | (go_at_call 9; refine (abs_is kd _ hkd.1 hkd.2).mono ?_; rintro e w' ⟨rfl, rfl⟩; rw [← HM.out])
    | (go_at_call 27; refine (rename_none base D M S _ _ _ (HD.out.keeps HK.out fun _ _ h => h).is HNS.out HNT.out (HD.out.none HP.out) HD.out.off).mono ?_; rintro e w3 ⟨rfl, hk2⟩; have HK2 := Lib.hid hk2; clear hk2))
  go_ret
  exact ⟨true, rfl, note_none_end (w1 := w) HB.out HD.out (HK.out.trans HK2.out) HP.out⟩

set_option maxHeartbeats 1600000 in
set_option maxRecDepth 100000 in
theorem note_ren_same (base K D M : Nat) (S : DS) (bn bb : List ByteArray) (bs : List Int) (v0 v1 v2 : Value) (P : ByteArray → Prop) (k : Nat) (kd n : Int) (a b s t : ByteArray) (x : Value) (w : World) (hb : BGood w base K bn bb bs v0 v1 v2 P k) (hd : DGood w base D M S P k) (hk : k ≤ 90) (hbase : base ≤ w.heap.size)
    (hkd : -9223372036854775808 ≤ kd ∧ kd ≤ 9223372036854775807) (ha : a.size ≤ 9223372036854775807) (hbs : b.size ≤ 9223372036854775807) (h3 : absN kd % 6 = 5) (hs : s = five (a.size % 5)) (ht : t = five (b.size % 5)) (hp : P s) (hst : s = t) :
    Calls Try.prog 15 #[.pointer (some ⟨K, 0, none⟩), .pointer (some ⟨D, 0, none⟩), opV kd a b x n] w fun e w' => ∃ r, e = .returned (.bool r) ∧ NRes w base K D M S v0 v1 v2 (fun x => (P x ∧ x ≠ s) ∨ x = t) (P s) k r w' := by
  unfold opV
  obtain ⟨g0, c0, g1, c1, g2, c2, rfl, rfl, rfl⟩ := hb.is.rows (List.length_pos_of_mem ((hb.mem _).2 hp))
  have hO : (w.alloc (.cells #[.int .i64 kd, .string a, .string b, x, .int .i64 n] 44)).heap[w.heap.size]? = some (.cells #[.int .i64 kd, .string a, .string b, x, .int .i64 n] 44 (0, 0)) := (MapKept.heap_alloc _ _).1
  have hK0 : Keeps (fun _ => False) w (w.alloc (.cells #[.int .i64 kd, .string a, .string b, x, .int .i64 n] 44)) := Keeps.alloc _ _ _
  have key : ∀ W, Keeps (fun _ => False) (w.alloc (.cells #[.int .i64 kd, .string a, .string b, x, .int .i64 n] 44)) W → W.heap[w.heap.size]? = some (.cells #[.int .i64 kd, .string a, .string b, x, .int .i64 n] 44 (0, 0)) ∧ Keeps (fun _ => False) w W := fun W hW =>
    ⟨(hW.block _ (by simp) (fun h => h)).trans hO, hK0.trans hW⟩
  have ns : Named s := hs ▸ five_named _
  have nt : Named t := ht ▸ five_named _
  have HNS := Lib.hid ns
  have HNT := Lib.hid nt
  have HS := Lib.hid hs
  have HT := Lib.hid ht
  have HKEY := Lib.hid key
  have HB := Lib.hid hb
  have HD := Lib.hid hd
  have HP := Lib.hid hp
  have hm : ((absN kd : Nat) : Int) % 6 = 5 := by omega
  obtain ⟨m, hmm⟩ : ∃ m, m = absN kd := ⟨_, rfl⟩
  rw [← hmm] at hm
  have HM := Lib.hid hmm
  clear key hb hd hp hO hK0 h3 hmm hs ht ns nt
  have hE : (s.toList == t.toList) = true := by rw [hst]; exact beq_self_eq_true _
  have HST := Lib.hid hst
  clear hst
  go_enter Try.func15, Try.ntmps15
  go_wp2_with (first
    | (go_at_call 24; have _hg := HK1; refine (name_is b.size _ hbs).mono ?_; rintro e w2 ⟨rfl, hk1⟩; rw [← HT.out]; have HK := Lib.hid (HK1.out.trans hk1); clear hk1 o0 o2)
    | (go_at_call 24; refine (name_is a.size _ ha).mono ?_; rintro e w1 ⟨rfl, hk1⟩; rw [← HS.out]; obtain ⟨hO, hK⟩ := HKEY.out _ hk1; have HK1 := Lib.hid hK; have o0 : w1.cell? ⟨w.heap.size, 0, none⟩ = some (.int .i64 kd) := (by simp [World.cell?, hO]); have o2 : w1.cell? ⟨w.heap.size, 2, none⟩ = some (.string b) := (by simp [World.cell?, hO]); clear hk1 hO hK)
    | (go_at_call 25; refine (at_there (HB.out.keeps HK1.out fun _ _ h => h) (by omega) s HP.out).mono ?_; rintro e w' ⟨i, rfl, hi, rfl⟩; have HI := Lib.hid hi; have hi0 := hi.1; clear hi)
    | (go_at_call 9; refine (abs_is kd _ hkd.1 hkd.2).mono ?_; rintro e w' ⟨rfl, rfl⟩; rw [← HM.out])
    | (go_at_call 27; refine (ren_res base D M S P k _ _ _ (HD.out.keeps HK.out fun _ _ h => h) (by omega) HNS.out HNT.out HP.out).mono ?_; rintro e w3 ⟨r, rfl, hres⟩; have HRES := Lib.hid hres; have hb2 := (HB.out.keeps HK.out fun _ _ h => h).keeps hres.1 ((HB.out.keeps HK.out fun _ _ h => h).is.apart_disk (HD.out.keeps HK.out fun _ _ h => h).is (HD.out.keeps HK.out fun _ _ h => h).own); have HB2 := Lib.hid hb2; obtain ⟨_, y, z, hy, d0, d1, d2, d3, d4, d5, d6, d7, d8⟩ := hb2.is.facts hi0; have HY := Lib.hid hy; clear hy hres hb2))
  go_ret
  refine ⟨_, rfl, note_some_end HB.out HD.out HK.out HRES.out (Keeps.refl _ w3) ⟨HB2.out.is, HB2.out.nodup, fun x => ?_, Nat.le_succ_of_le HB2.out.len, HB2.out.more.size⟩ (fun b h => .inl h) HP.out ?_⟩
  · rw [HB2.out.mem, ← HST.out]
    constructor
    · intro h
      by_cases e : x = s
      · exact .inr e
      · exact .inl ⟨h, e⟩
    · rintro (h | h)
      · exact h.1
      · exact h ▸ HP.out
  · constructor <;> rintro rfl <;> rfl

set_option maxHeartbeats 1600000 in
set_option maxRecDepth 100000 in
theorem note_ren_free (base K D M : Nat) (S : DS) (bn bb : List ByteArray) (bs : List Int) (v0 v1 v2 : Value) (P : ByteArray → Prop) (k : Nat) (kd n : Int) (a b s t : ByteArray) (x : Value) (w : World) (hb : BGood w base K bn bb bs v0 v1 v2 P k) (hd : DGood w base D M S P k) (hk : k ≤ 90) (hbase : base ≤ w.heap.size)
    (hkd : -9223372036854775808 ≤ kd ∧ kd ≤ 9223372036854775807) (ha : a.size ≤ 9223372036854775807) (hbs : b.size ≤ 9223372036854775807) (h3 : absN kd % 6 = 5) (hs : s = five (a.size % 5)) (ht : t = five (b.size % 5)) (hp : P s) (hst : s ≠ t) (hpt : ¬ P t) :
    Calls Try.prog 15 #[.pointer (some ⟨K, 0, none⟩), .pointer (some ⟨D, 0, none⟩), opV kd a b x n] w fun e w' => ∃ r, e = .returned (.bool r) ∧ NRes w base K D M S v0 v1 v2 (fun x => (P x ∧ x ≠ s) ∨ x = t) (P s) k r w' := by
  unfold opV
  obtain ⟨g0, c0, g1, c1, g2, c2, rfl, rfl, rfl⟩ := hb.is.rows (List.length_pos_of_mem ((hb.mem _).2 hp))
  have hO : (w.alloc (.cells #[.int .i64 kd, .string a, .string b, x, .int .i64 n] 44)).heap[w.heap.size]? = some (.cells #[.int .i64 kd, .string a, .string b, x, .int .i64 n] 44 (0, 0)) := (MapKept.heap_alloc _ _).1
  have hK0 : Keeps (fun _ => False) w (w.alloc (.cells #[.int .i64 kd, .string a, .string b, x, .int .i64 n] 44)) := Keeps.alloc _ _ _
  have key : ∀ W, Keeps (fun _ => False) (w.alloc (.cells #[.int .i64 kd, .string a, .string b, x, .int .i64 n] 44)) W → W.heap[w.heap.size]? = some (.cells #[.int .i64 kd, .string a, .string b, x, .int .i64 n] 44 (0, 0)) ∧ Keeps (fun _ => False) w W := fun W hW =>
    ⟨(hW.block _ (by simp) (fun h => h)).trans hO, hK0.trans hW⟩
  have ns : Named s := hs ▸ five_named _
  have nt : Named t := ht ▸ five_named _
  have HNS := Lib.hid ns
  have HNT := Lib.hid nt
  have HS := Lib.hid hs
  have HT := Lib.hid ht
  have HKEY := Lib.hid key
  have HB := Lib.hid hb
  have HD := Lib.hid hd
  have HP := Lib.hid hp
  have hm : ((absN kd : Nat) : Int) % 6 = 5 := by omega
  obtain ⟨m, hmm⟩ : ∃ m, m = absN kd := ⟨_, rfl⟩
  rw [← hmm] at hm
  have HM := Lib.hid hmm
  clear key hb hd hp hO hK0 h3 hmm hs ht ns nt
  have hE : (s.toList == t.toList) = false := by rw [← beq_toListBytes, str_eq]; simpa using hst
  have HST := Lib.hid hst
  have HPT := Lib.hid hpt
  clear hst hpt
  go_enter Try.func15, Try.ntmps15
  go_wp2_with (first
    | (go_at_call 24; have _hg := HK1; refine (name_is b.size _ hbs).mono ?_; rintro e w2 ⟨rfl, hk1⟩; rw [← HT.out]; have HK := Lib.hid (HK1.out.trans hk1); clear hk1 o0 o2)
    | (go_at_call 24; refine (name_is a.size _ ha).mono ?_; rintro e w1 ⟨rfl, hk1⟩; rw [← HS.out]; obtain ⟨hO, hK⟩ := HKEY.out _ hk1; have HK1 := Lib.hid hK; have o0 : w1.cell? ⟨w.heap.size, 0, none⟩ = some (.int .i64 kd) := (by simp [World.cell?, hO]); have o2 : w1.cell? ⟨w.heap.size, 2, none⟩ = some (.string b) := (by simp [World.cell?, hO]); clear hk1 hO hK)
    | (go_at_call 25; have _hg := HRES; refine (at_none HB2.out (by omega) t HPT.out).mono ?_; rintro e w' ⟨rfl, rfl⟩)
    | (go_at_call 25; refine (at_there (HB.out.keeps HK1.out fun _ _ h => h) (by omega) s HP.out).mono ?_; rintro e w' ⟨i, rfl, hi, rfl⟩; have HI := Lib.hid hi; have hi0 := hi.1; clear hi)
    | (go_at_call 9; refine (abs_is kd _ hkd.1 hkd.2).mono ?_; rintro e w' ⟨rfl, rfl⟩; rw [← HM.out])
    | (go_at_call 27; refine (ren_res base D M S P k _ _ _ (HD.out.keeps HK.out fun _ _ h => h) (by omega) HNS.out HNT.out HP.out).mono ?_; rintro e w3 ⟨r, rfl, hres⟩; have HRES := Lib.hid hres; have hb2 := (HB.out.keeps HK.out fun _ _ h => h).keeps hres.1 ((HB.out.keeps HK.out fun _ _ h => h).is.apart_disk (HD.out.keeps HK.out fun _ _ h => h).is (HD.out.keeps HK.out fun _ _ h => h).own); have HB2 := Lib.hid hb2; obtain ⟨_, y, z, hy, d0, d1, d2, d3, d4, d5, d6, d7, d8⟩ := hb2.is.facts hi0; have HY := Lib.hid hy; clear hy hres hb2))
  go_ret
  refine ⟨_, rfl, note_some_end HB.out HD.out HK.out HRES.out (w3 := w3.setCell ⟨g0, i, none⟩ (.string t)) (Keeps.setCell w3 _ _ fun _ => .inr (.inl rfl)) ⟨Book.set_names HB2.out.is i t, nodup_set HB2.out.nodup i fun h => HPT.out ((HB2.out.mem t).1 h), fun x => ?_, by rw [List.length_set]; exact Nat.le_succ_of_le HB2.out.len, HB2.out.more.size⟩ (fun b h => .inl h) HP.out ?_⟩
  · rw [mem_set_at HB2.out.nodup HI.out.2, HB2.out.mem]
  · constructor <;> rintro rfl <;> rfl

set_option maxHeartbeats 1600000 in
set_option maxRecDepth 100000 in
theorem note_ren_onto (base K D M : Nat) (S : DS) (bn bb : List ByteArray) (bs : List Int) (v0 v1 v2 : Value) (P : ByteArray → Prop) (k : Nat) (kd n : Int) (a b s t : ByteArray) (x : Value) (w : World) (hb : BGood w base K bn bb bs v0 v1 v2 P k) (hd : DGood w base D M S P k) (hk : k ≤ 90) (hbase : base ≤ w.heap.size)
    (hkd : -9223372036854775808 ≤ kd ∧ kd ≤ 9223372036854775807) (ha : a.size ≤ 9223372036854775807) (hbs : b.size ≤ 9223372036854775807) (h3 : absN kd % 6 = 5) (hs : s = five (a.size % 5)) (ht : t = five (b.size % 5)) (hp : P s) (hst : s ≠ t) (hpt : P t) :
    Calls Try.prog 15 #[.pointer (some ⟨K, 0, none⟩), .pointer (some ⟨D, 0, none⟩), opV kd a b x n] w fun e w' => ∃ r, e = .returned (.bool r) ∧ NRes w base K D M S v0 v1 v2 (fun x => (P x ∧ x ≠ s) ∨ x = t) (P s) k r w' := by
  unfold opV
  obtain ⟨g0, c0, g1, c1, g2, c2, rfl, rfl, rfl⟩ := hb.is.rows (List.length_pos_of_mem ((hb.mem _).2 hp))
  have hO : (w.alloc (.cells #[.int .i64 kd, .string a, .string b, x, .int .i64 n] 44)).heap[w.heap.size]? = some (.cells #[.int .i64 kd, .string a, .string b, x, .int .i64 n] 44 (0, 0)) := (MapKept.heap_alloc _ _).1
  have hK0 : Keeps (fun _ => False) w (w.alloc (.cells #[.int .i64 kd, .string a, .string b, x, .int .i64 n] 44)) := Keeps.alloc _ _ _
  have key : ∀ W, Keeps (fun _ => False) (w.alloc (.cells #[.int .i64 kd, .string a, .string b, x, .int .i64 n] 44)) W → W.heap[w.heap.size]? = some (.cells #[.int .i64 kd, .string a, .string b, x, .int .i64 n] 44 (0, 0)) ∧ Keeps (fun _ => False) w W := fun W hW =>
    ⟨(hW.block _ (by simp) (fun h => h)).trans hO, hK0.trans hW⟩
  have ns : Named s := hs ▸ five_named _
  have nt : Named t := ht ▸ five_named _
  have HNS := Lib.hid ns
  have HNT := Lib.hid nt
  have HS := Lib.hid hs
  have HT := Lib.hid ht
  have HKEY := Lib.hid key
  have HB := Lib.hid hb
  have HD := Lib.hid hd
  have HP := Lib.hid hp
  have hm : ((absN kd : Nat) : Int) % 6 = 5 := by omega
  obtain ⟨m, hmm⟩ : ∃ m, m = absN kd := ⟨_, rfl⟩
  rw [← hmm] at hm
  have HM := Lib.hid hmm
  clear key hb hd hp hO hK0 h3 hmm hs ht ns nt
  have hE : (s.toList == t.toList) = false := by rw [← beq_toListBytes, str_eq]; simpa using hst
  have HST := Lib.hid hst
  have HPT := Lib.hid hpt
  clear hst hpt
  go_enter Try.func15, Try.ntmps15
  go_wp2_with (first
    | (go_at_call 24; have _hg := HK1; refine (name_is b.size _ hbs).mono ?_; rintro e w2 ⟨rfl, hk1⟩; rw [← HT.out]; have HK := Lib.hid (HK1.out.trans hk1); clear hk1 o0 o2)
    | (go_at_call 24; refine (name_is a.size _ ha).mono ?_; rintro e w1 ⟨rfl, hk1⟩; rw [← HS.out]; obtain ⟨hO, hK⟩ := HKEY.out _ hk1; have HK1 := Lib.hid hK; have o0 : w1.cell? ⟨w.heap.size, 0, none⟩ = some (.int .i64 kd) := (by simp [World.cell?, hO]); have o2 : w1.cell? ⟨w.heap.size, 2, none⟩ = some (.string b) := (by simp [World.cell?, hO]); clear hk1 hO hK)
    | (go_at_call 25; have _hg := HRES; refine (at_there HB2.out (by omega) t HPT.out).mono ?_; rintro e w' ⟨j, rfl, hj, rfl⟩; have HJ := Lib.hid hj; clear hj)
    | (go_at_call 26; refine (out_is base K (bn.set i t) bb bs _ _ _ j _ (Book.set_names HB2.out.is i t) (by rw [List.length_set]; exact Nat.le_trans HB2.out.len (by omega)) (by rw [List.length_set]; exact HJ.out.1) (Nat.le_trans hbase (Nat.le_trans HK.out.size (Nat.le_trans HRES.out.1.size (by simp [World.setCell]))))).mono ?_; rintro e w4 ⟨rfl, hout⟩; have HOUT := Lib.hid hout; clear hout)
    | (go_at_call 25; refine (at_there (HB.out.keeps HK1.out fun _ _ h => h) (by omega) s HP.out).mono ?_; rintro e w' ⟨i, rfl, hi, rfl⟩; have HI := Lib.hid hi; have hi0 := hi.1; clear hi)
    | (go_at_call 9; refine (abs_is kd _ hkd.1 hkd.2).mono ?_; rintro e w' ⟨rfl, rfl⟩; rw [← HM.out])
    | (go_at_call 27; refine (ren_res base D M S P k _ _ _ (HD.out.keeps HK.out fun _ _ h => h) (by omega) HNS.out HNT.out HP.out).mono ?_; rintro e w3 ⟨r, rfl, hres⟩; have HRES := Lib.hid hres; have hb2 := (HB.out.keeps HK.out fun _ _ h => h).keeps hres.1 ((HB.out.keeps HK.out fun _ _ h => h).is.apart_disk (HD.out.keeps HK.out fun _ _ h => h).is (HD.out.keeps HK.out fun _ _ h => h).own); have HB2 := Lib.hid hb2; obtain ⟨_, y, z, hy, d0, d1, d2, d3, d4, d5, d6, d7, d8⟩ := hb2.is.facts hi0; have HY := Lib.hid hy; clear hy hres hb2))
  go_ret
  obtain ⟨u0, u1, u2, hb3, hk3, hf3⟩ := HOUT.out
  have hs := Nat.le_trans HK.out.size (Nat.le_trans HRES.out.1.size (show w3.heap.size ≤ (w3.setCell ⟨g0, i, none⟩ (.string t)).heap.size by simp [World.setCell]))
  refine ⟨_, rfl, note_some_end HB.out HD.out HK.out HRES.out ((Keeps.setCell w3 ⟨g0, i, none⟩ (.string t) fun _ => .inr (.inl rfl)).trans hk3) ⟨hb3, onto_nodup HB2.out.nodup HJ.out.2, fun x => ?_, ?_, erase_size HB2.out.more.size j⟩ (fun b h => (hf3 b h).imp id fun h => Nat.le_trans hs h) HP.out ?_⟩
  · rw [onto_mem HB2.out.nodup HI.out.2 HJ.out.2 HST.out, HB2.out.mem]
  · have := HB2.out.len
    rw [List.length_eraseIdx, List.length_set]; split <;> omega
  · constructor <;> rintro rfl <;> rfl

end Go.Proofs.Ytigbodokmkpohaa
