/- Append, noted: the file is there. -/
import Derived.Test.YtigbodokmkpohaaNf
namespace Go.Proofs.Ytigbodokmkpohaa
open Go.RowKit

/-- The end of a noted append: the book is written ahead of the call. -/
theorem note_app_end {w w1 W w3 : World} {base K D M : Nat} {S : DS} {bn bb bn' bb' : List ByteArray} {bs bs' : List Int} {v0 v1 v2 u0 u1 u2 : Value} {P P' : ByteArray → Prop} {C : Prop} {k : Nat} {r : Int} {t : Bool}
    (hb : BGood w base K bn bb bs v0 v1 v2 P k) (hd : DGood w base D M S P k) (hk : Keeps (fun _ => False) w w1) (hkb : Keeps (BFoot K v0 v1 v2) w1 W) (hbW : BGood W base K bn' bb' bs' u0 u1 u2 P' (k + 1))
    (hft : ∀ b, BFoot K u0 u1 u2 b → BFoot K v0 v1 v2 b ∨ w.heap.size ≤ b) (hres : DRes W base D M S P' k r w3) (hC : C) (ht : (r = 0 → t = true) ∧ (r = 122 → t = false)) :
    NRes w base K D M S v0 v1 v2 P' C k t w3 := by
  have hb1 := hb.keeps hk fun _ _ h => h
  have hd1 := hd.keeps hk fun _ _ h => h
  have hdW := hd1.keeps hkb fun b hf hbf => hb1.is.apart_disk hd1.is hd1.own b hbf hf
  have hb3 := hbW.keeps hres.1 (hbW.is.apart_disk hdW.is hdW.own)
  have hs := Nat.le_trans hk.size hkb.size
  refine ⟨((hk.mono fun _ _ h => h.elim).trans (hkb.mono fun b _ h => .inl h)).trans (hres.1.mono fun b _ h => .inr h), ?_⟩
  rcases hres.2 with ⟨hr, hat, S', h1, h2, h3, h4⟩ | ⟨hr, hat, x3, x4, hD⟩
  · exact .inl ⟨ht.1 hr, fun _ => hat, ⟨S', h1, fun _ => h2, fun h => absurd hC h, h3, fun b hf => (h4 b hf).imp id fun h => Nat.le_trans hs h⟩, ⟨bn', bb', bs', u0, u1, u2, hb3, hft⟩⟩
  · exact .inr ⟨ht.2 hr, hC, hat, x3, x4, hD⟩

theorem DGood.atW {w w1 W : World} {base K D M : Nat} {S : DS} {bn bb : List ByteArray} {bs : List Int} {v0 v1 v2 : Value} {P : ByteArray → Prop} {k : Nat}
    (hb : BGood w base K bn bb bs v0 v1 v2 P k) (hd : DGood w base D M S P k) (hk : Keeps (fun _ => False) w w1) (hkb : Keeps (BFoot K v0 v1 v2) w1 W) : DGood W base D M S P k :=
  (hd.keeps hk fun _ _ h => h).keeps hkb fun b hf hbf => (hb.keeps hk fun _ _ h => h).is.apart_disk (hd.keeps hk fun _ _ h => h).is (hd.keeps hk fun _ _ h => h).own b hbf hf

theorem set_size {l : List ByteArray} {i k : Nat} {y str : ByteArray} (h : ∀ b ∈ l, b.size ≤ k * 1048576) (hy : l[i]? = some y) (hs : str.size ≤ 1048576) : ∀ b ∈ l.set i (y ++ str), b.size ≤ (k + 1) * 1048576 := by
  intro b hb
  rcases List.mem_or_eq_of_mem_set hb with h1 | rfl
  · exact Nat.le_trans (h b h1) (Nat.mul_le_mul_right _ (Nat.le_succ k))
  · have := h y (List.mem_of_getElem? hy)
    rw [ByteArray.size_append, Nat.succ_mul]
    exact Nat.add_le_add this hs

set_option maxHeartbeats 1600000 in
set_option maxRecDepth 100000 in
theorem note_old0 (base K D M : Nat) (S : DS) (bn bb : List ByteArray) (bs : List Int) (v0 v1 v2 : Value) (P : ByteArray → Prop) (k : Nat) (kd n : Int) (a b s : ByteArray) (x : Value) (l : List UInt8) (w : World) (hb : BGood w base K bn bb bs v0 v1 v2 P k) (hd : DGood w base D M S P k) (hk : k ≤ 90) (hbase : base ≤ w.heap.size)
    (hkd : -9223372036854775808 ≤ kd ∧ kd ≤ 9223372036854775807) (ha : a.size ≤ 9223372036854775807) (hx : Bytes w x l) (hxl : l ≠ [] → ∀ k, x.ownBlock = some k → k < base) (hl : l.length ≤ 1048576) (h3 : absN kd % 6 = 0) (hs : s = five (a.size % 5)) (hp : P s) :
    Calls Try.prog 15 #[.pointer (some ⟨K, 0, none⟩), .pointer (some ⟨D, 0, none⟩), opV kd a b x n] w fun e w' => ∃ r, e = .returned (.bool r) ∧ NRes w base K D M S v0 v1 v2 (fun t => P t ∨ t = s) True k r w' := by
  unfold opV
  obtain ⟨g0, c0, g1, c1, g2, c2, rfl, rfl, rfl⟩ := hb.is.rows (List.length_pos_of_mem ((hb.mem _).2 hp))
  have hO : (w.alloc (.cells #[.int .i64 kd, .string a, .string b, x, .int .i64 n] 44)).heap[w.heap.size]? = some (.cells #[.int .i64 kd, .string a, .string b, x, .int .i64 n] 44 (0, 0)) := (MapKept.heap_alloc _ _).1
  have hK0 : Keeps (fun _ => False) w (w.alloc (.cells #[.int .i64 kd, .string a, .string b, x, .int .i64 n] 44)) := Keeps.alloc _ _ _
  have key : ∀ W, Keeps (fun _ => False) (w.alloc (.cells #[.int .i64 kd, .string a, .string b, x, .int .i64 n] 44)) W → W.heap[w.heap.size]? = some (.cells #[.int .i64 kd, .string a, .string b, x, .int .i64 n] 44 (0, 0)) ∧ Keeps (fun _ => False) w W := fun W hW =>
    ⟨(hW.block _ (by simp) (fun h => h)).trans hO, hK0.trans hW⟩
  -- what the world holds ahead of the first region that draws
  have key2 : ∀ W, Keeps (fun _ => False) w W → ∀ V : World, V.heap = W.heap → (convert 22 9 x).run Try.prog V = .ok (.string ⟨l.toArray⟩) V := fun W hW V hV =>
    run_string_of (P := Try.prog) 22 9 5 Try.underlying22 Try.underlying5 Try.underlying9 _ _ V (hx.kept0 fun hn k hk => by rw [hV]; exact hW.block k (Nat.lt_of_lt_of_le (hxl hn k hk) hbase) (fun h => h))
  have key3 : ∀ W, Keeps (fun b => ¬ b < base) w W → Bytes W x l ∧ (l ≠ [] → ∀ k, x.ownBlock = some k → k < W.heap.size) := fun W hW =>
    ⟨hx.kept0 fun hn k hk => hW.block k (Nat.lt_of_lt_of_le (hxl hn k hk) hbase) (fun h => h (hxl hn k hk)), fun hn k hk => Nat.lt_of_lt_of_le (hxl hn k hk) (Nat.le_trans hbase hW.size)⟩
  have hxM : l ≠ [] → ∀ k, x.ownBlock = some k → k ≠ M := fun hn k hk e => by have := hd.is.lo.2.1; have := hxl hn k hk; omega
  have HXM := Lib.hid hxM
  have HK2 := Lib.hid key2
  have HK3 := Lib.hid key3
  have ns : Named s := hs ▸ five_named _
  have HNS := Lib.hid ns
  have HS := Lib.hid hs
  have HKEY := Lib.hid key
  have HB := Lib.hid hb
  have HD := Lib.hid hd
  have HP := Lib.hid hp
  have hm : ((absN kd : Nat) : Int) % 6 = 0 := by omega
  obtain ⟨m, hmm⟩ : ∃ m, m = absN kd := ⟨_, rfl⟩
  rw [← hmm] at hm
  have HM := Lib.hid hmm
  clear key key2 key3 hb hd hp hO hK0 h3 hmm hs ns hx hxl hxM
  go_enter Try.func15, Try.ntmps15
  go_wp2_with (first
    | (go_at_call 24; refine (name_is a.size _ ha).mono ?_; rintro e w1 ⟨rfl, hk1⟩; rw [← HS.out]; obtain ⟨hO, hK⟩ := HKEY.out _ hk1; have HK := Lib.hid hK; have o0 : w1.cell? ⟨w.heap.size, 0, none⟩ = some (.int .i64 kd) := (by simp [World.cell?, hO]); have o3 : w1.cell? ⟨w.heap.size, 3, none⟩ = some x := (by simp [World.cell?, hO]); clear hk1 hO hK)
    | (go_at_call 25; refine (at_there (HB.out.keeps HK.out fun _ _ h => h) (by omega) s HP.out).mono ?_; rintro e w' ⟨i, rfl, hi, rfl⟩; have HI := Lib.hid hi; have hi0 := hi.1; clear hi)
    | (go_at_call 9; refine (abs_is kd _ hkd.1 hkd.2).mono ?_; rintro e w' ⟨rfl, rfl⟩; rw [← HM.out]))
  have hb1 := HB.out.keeps HK.out fun _ _ h => h
  have hcv := HK2.out _ HK.out w1.drew rfl
  obtain ⟨_, y, z, hy, d0, d1, d2, d3, d4, d5, d6, d7, d8⟩ := hb1.is.facts hi0
  have HY := Lib.hid hy
  have hys := hb1.size y (List.mem_of_getElem? hy)
  obtain ⟨str, hstr⟩ : ∃ str : ByteArray, str = ⟨l.toArray⟩ := ⟨_, rfl⟩
  have hss : str.size ≤ 1048576 := by rw [hstr]; simpa [ByteArray.size] using hl
  rw [← hstr] at hcv
  have hsz : ¬ 9223372036854775807 < y.size + str.size := by omega
  clear hstr
  have HB1 := Lib.hid hb1
  clear hb1 hy
  have kb : Keeps (BFoot K (.slice (some ⟨g0, 0, none⟩) bn.length c0) (.slice (some ⟨g1, 0, none⟩) bn.length c1) (.slice (some ⟨g2, 0, none⟩) bn.length c2)) w1 (w1.setCell ⟨g1, i, none⟩ (.string (y ++ str))).drew := (Keeps.setCell w1 _ _ fun _ => .inr (.inr (.inl rfl))).trans (Keeps.drew _ _)
  have hbk : BGood (w1.setCell ⟨g1, i, none⟩ (.string (y ++ str))).drew base K bn (bb.set i (y ++ str)) bs (.slice (some ⟨g0, 0, none⟩) bn.length c0) (.slice (some ⟨g1, 0, none⟩) bn.length c1) (.slice (some ⟨g2, 0, none⟩) bn.length c2) (fun t => P t ∨ t = s) (k + 1) :=
    ⟨(Book.set_bytes HB1.out.is i (y ++ str)).drew, HB1.out.nodup, fun t => (HB1.out.mem t).trans ⟨.inl, fun h => h.elim id fun e => e ▸ HP.out⟩, Nat.le_succ_of_le HB1.out.len, set_size HB1.out.size HY.out hss⟩
  have hdw := DGood.atW HB.out HD.out HK.out kb
  have hxw := HK3.out _ ((HK.out.mono fun _ _ h => h.elim).trans (kb.mono fun b _ h => Nat.not_lt.2 (HB.out.is.lt h).1))
  have hsw : base ≤ (w1.setCell ⟨g1, i, none⟩ (.string (y ++ str))).drew.heap.size := Nat.le_trans hbase (Nat.le_trans HK.out.size kb.size)
  have o3' : (w1.setCell ⟨g1, i, none⟩ (.string (y ++ str))).cell? ⟨w.heap.size, 3, none⟩ = some x := by
    have h1 := HB.out.is.lt (b := g1) (.inr (.inr (.inl rfl)))
    have h2 : (w1.setCell ⟨g1, i, none⟩ (.string (y ++ str))).heap[w.heap.size]? = w1.heap[w.heap.size]? := Below.heap_setCell _ _ _ _ (by simp only; omega)
    rw [← o3]
    simp only [World.cell?, h2]
  have HKB := Lib.hid kb
  have HBK := Lib.hid hbk
  have HDW := Lib.hid hdw
  have HXW := Lib.hid hxw
  clear kb hbk hdw hxw
  go_still_tail 17, (by kernel_rfl)
  change wpList _ _ _ _ _ w1.drew
  go_wp2_with (go_at_call 7; refine (app_res base D M S P k s x l _ HDW.out (by omega) HNS.out HXW.out.1 HXW.out.2 HXM.out hl hsw).mono ?_; rintro e w3 ⟨r, rfl, hres⟩; have HRES := Lib.hid hres; clear hres)
  go_ret
  refine ⟨_, rfl, note_app_end HB.out HD.out HK.out HKB.out HBK.out (fun b h => .inl h) HRES.out trivial ?_⟩
  constructor <;> rintro rfl <;> rfl

set_option maxHeartbeats 1600000 in
set_option maxRecDepth 100000 in
theorem note_old1 (base K D M : Nat) (S : DS) (bn bb : List ByteArray) (bs : List Int) (v0 v1 v2 : Value) (P : ByteArray → Prop) (k : Nat) (kd n : Int) (a b s : ByteArray) (x : Value) (l : List UInt8) (w : World) (hb : BGood w base K bn bb bs v0 v1 v2 P k) (hd : DGood w base D M S P k) (hk : k ≤ 90) (hbase : base ≤ w.heap.size)
    (hkd : -9223372036854775808 ≤ kd ∧ kd ≤ 9223372036854775807) (ha : a.size ≤ 9223372036854775807) (hx : Bytes w x l) (hxl : l ≠ [] → ∀ k, x.ownBlock = some k → k < base) (hl : l.length ≤ 1048576) (h3 : absN kd % 6 = 1) (hs : s = five (a.size % 5)) (hp : P s) :
    Calls Try.prog 15 #[.pointer (some ⟨K, 0, none⟩), .pointer (some ⟨D, 0, none⟩), opV kd a b x n] w fun e w' => ∃ r, e = .returned (.bool r) ∧ NRes w base K D M S v0 v1 v2 (fun t => P t ∨ t = s) True k r w' := by
  unfold opV
  obtain ⟨g0, c0, g1, c1, g2, c2, rfl, rfl, rfl⟩ := hb.is.rows (List.length_pos_of_mem ((hb.mem _).2 hp))
  have hO : (w.alloc (.cells #[.int .i64 kd, .string a, .string b, x, .int .i64 n] 44)).heap[w.heap.size]? = some (.cells #[.int .i64 kd, .string a, .string b, x, .int .i64 n] 44 (0, 0)) := (MapKept.heap_alloc _ _).1
  have hK0 : Keeps (fun _ => False) w (w.alloc (.cells #[.int .i64 kd, .string a, .string b, x, .int .i64 n] 44)) := Keeps.alloc _ _ _
  have key : ∀ W, Keeps (fun _ => False) (w.alloc (.cells #[.int .i64 kd, .string a, .string b, x, .int .i64 n] 44)) W → W.heap[w.heap.size]? = some (.cells #[.int .i64 kd, .string a, .string b, x, .int .i64 n] 44 (0, 0)) ∧ Keeps (fun _ => False) w W := fun W hW =>
    ⟨(hW.block _ (by simp) (fun h => h)).trans hO, hK0.trans hW⟩
  -- what the world holds ahead of the first region that draws
  have key2 : ∀ W, Keeps (fun _ => False) w W → ∀ V : World, V.heap = W.heap → (convert 22 9 x).run Try.prog V = .ok (.string ⟨l.toArray⟩) V := fun W hW V hV =>
    run_string_of (P := Try.prog) 22 9 5 Try.underlying22 Try.underlying5 Try.underlying9 _ _ V (hx.kept0 fun hn k hk => by rw [hV]; exact hW.block k (Nat.lt_of_lt_of_le (hxl hn k hk) hbase) (fun h => h))
  have key3 : ∀ W, Keeps (fun b => ¬ b < base) w W → Bytes W x l ∧ (l ≠ [] → ∀ k, x.ownBlock = some k → k < W.heap.size) := fun W hW =>
    ⟨hx.kept0 fun hn k hk => hW.block k (Nat.lt_of_lt_of_le (hxl hn k hk) hbase) (fun h => h (hxl hn k hk)), fun hn k hk => Nat.lt_of_lt_of_le (hxl hn k hk) (Nat.le_trans hbase hW.size)⟩
  have hxM : l ≠ [] → ∀ k, x.ownBlock = some k → k ≠ M := fun hn k hk e => by have := hd.is.lo.2.1; have := hxl hn k hk; omega
  have HXM := Lib.hid hxM
  have HK2 := Lib.hid key2
  have HK3 := Lib.hid key3
  have ns : Named s := hs ▸ five_named _
  have HNS := Lib.hid ns
  have HS := Lib.hid hs
  have HKEY := Lib.hid key
  have HB := Lib.hid hb
  have HD := Lib.hid hd
  have HP := Lib.hid hp
  have hm : ((absN kd : Nat) : Int) % 6 = 1 := by omega
  obtain ⟨m, hmm⟩ : ∃ m, m = absN kd := ⟨_, rfl⟩
  rw [← hmm] at hm
  have HM := Lib.hid hmm
  clear key key2 key3 hb hd hp hO hK0 h3 hmm hs ns hx hxl hxM
  go_enter Try.func15, Try.ntmps15
  go_wp2_with (first
    | (go_at_call 24; refine (name_is a.size _ ha).mono ?_; rintro e w1 ⟨rfl, hk1⟩; rw [← HS.out]; obtain ⟨hO, hK⟩ := HKEY.out _ hk1; have HK := Lib.hid hK; have o0 : w1.cell? ⟨w.heap.size, 0, none⟩ = some (.int .i64 kd) := (by simp [World.cell?, hO]); have o3 : w1.cell? ⟨w.heap.size, 3, none⟩ = some x := (by simp [World.cell?, hO]); clear hk1 hO hK)
    | (go_at_call 25; refine (at_there (HB.out.keeps HK.out fun _ _ h => h) (by omega) s HP.out).mono ?_; rintro e w' ⟨i, rfl, hi, rfl⟩; have HI := Lib.hid hi; have hi0 := hi.1; clear hi)
    | (go_at_call 9; refine (abs_is kd _ hkd.1 hkd.2).mono ?_; rintro e w' ⟨rfl, rfl⟩; rw [← HM.out]))
  have hb1 := HB.out.keeps HK.out fun _ _ h => h
  have hcv := HK2.out _ HK.out w1.drew rfl
  obtain ⟨_, y, z, hy, d0, d1, d2, d3, d4, d5, d6, d7, d8⟩ := hb1.is.facts hi0
  have HY := Lib.hid hy
  have hys := hb1.size y (List.mem_of_getElem? hy)
  obtain ⟨str, hstr⟩ : ∃ str : ByteArray, str = ⟨l.toArray⟩ := ⟨_, rfl⟩
  have hss : str.size ≤ 1048576 := by rw [hstr]; simpa [ByteArray.size] using hl
  rw [← hstr] at hcv
  have hsz : ¬ 9223372036854775807 < y.size + str.size := by omega
  clear hstr
  have HB1 := Lib.hid hb1
  clear hb1 hy
  have kb : Keeps (BFoot K (.slice (some ⟨g0, 0, none⟩) bn.length c0) (.slice (some ⟨g1, 0, none⟩) bn.length c1) (.slice (some ⟨g2, 0, none⟩) bn.length c2)) w1 (w1.setCell ⟨g1, i, none⟩ (.string (y ++ str))).drew := (Keeps.setCell w1 _ _ fun _ => .inr (.inr (.inl rfl))).trans (Keeps.drew _ _)
  have hbk : BGood (w1.setCell ⟨g1, i, none⟩ (.string (y ++ str))).drew base K bn (bb.set i (y ++ str)) bs (.slice (some ⟨g0, 0, none⟩) bn.length c0) (.slice (some ⟨g1, 0, none⟩) bn.length c1) (.slice (some ⟨g2, 0, none⟩) bn.length c2) (fun t => P t ∨ t = s) (k + 1) :=
    ⟨(Book.set_bytes HB1.out.is i (y ++ str)).drew, HB1.out.nodup, fun t => (HB1.out.mem t).trans ⟨.inl, fun h => h.elim id fun e => e ▸ HP.out⟩, Nat.le_succ_of_le HB1.out.len, set_size HB1.out.size HY.out hss⟩
  have hdw := DGood.atW HB.out HD.out HK.out kb
  have hxw := HK3.out _ ((HK.out.mono fun _ _ h => h.elim).trans (kb.mono fun b _ h => Nat.not_lt.2 (HB.out.is.lt h).1))
  have hsw : base ≤ (w1.setCell ⟨g1, i, none⟩ (.string (y ++ str))).drew.heap.size := Nat.le_trans hbase (Nat.le_trans HK.out.size kb.size)
  have o3' : (w1.setCell ⟨g1, i, none⟩ (.string (y ++ str))).cell? ⟨w.heap.size, 3, none⟩ = some x := by
    have h1 := HB.out.is.lt (b := g1) (.inr (.inr (.inl rfl)))
    have h2 : (w1.setCell ⟨g1, i, none⟩ (.string (y ++ str))).heap[w.heap.size]? = w1.heap[w.heap.size]? := Below.heap_setCell _ _ _ _ (by simp only; omega)
    rw [← o3]
    simp only [World.cell?, h2]
  have HKB := Lib.hid kb
  have HBK := Lib.hid hbk
  have HDW := Lib.hid hdw
  have HXW := Lib.hid hxw
  clear kb hbk hdw hxw
  go_still_tail 17, (by kernel_rfl)
  change wpList _ _ _ _ _ w1.drew
  go_wp2_with (go_at_call 7; refine (app_res base D M S P k s x l _ HDW.out (by omega) HNS.out HXW.out.1 HXW.out.2 HXM.out hl hsw).mono ?_; rintro e w3 ⟨r, rfl, hres⟩; have HRES := Lib.hid hres; clear hres)
  go_ret
  refine ⟨_, rfl, note_app_end HB.out HD.out HK.out HKB.out HBK.out (fun b h => .inl h) HRES.out trivial ?_⟩
  constructor <;> rintro rfl <;> rfl

set_option maxHeartbeats 1600000 in
set_option maxRecDepth 100000 in
theorem note_old2 (base K D M : Nat) (S : DS) (bn bb : List ByteArray) (bs : List Int) (v0 v1 v2 : Value) (P : ByteArray → Prop) (k : Nat) (kd n : Int) (a b s : ByteArray) (x : Value) (l : List UInt8) (w : World) (hb : BGood w base K bn bb bs v0 v1 v2 P k) (hd : DGood w base D M S P k) (hk : k ≤ 90) (hbase : base ≤ w.heap.size)
    (hkd : -9223372036854775808 ≤ kd ∧ kd ≤ 9223372036854775807) (ha : a.size ≤ 9223372036854775807) (hx : Bytes w x l) (hxl : l ≠ [] → ∀ k, x.ownBlock = some k → k < base) (hl : l.length ≤ 1048576) (h3 : absN kd % 6 = 2) (hs : s = five (a.size % 5)) (hp : P s) :
    Calls Try.prog 15 #[.pointer (some ⟨K, 0, none⟩), .pointer (some ⟨D, 0, none⟩), opV kd a b x n] w fun e w' => ∃ r, e = .returned (.bool r) ∧ NRes w base K D M S v0 v1 v2 (fun t => P t ∨ t = s) True k r w' := by
  unfold opV
  obtain ⟨g0, c0, g1, c1, g2, c2, rfl, rfl, rfl⟩ := hb.is.rows (List.length_pos_of_mem ((hb.mem _).2 hp))
  have hO : (w.alloc (.cells #[.int .i64 kd, .string a, .string b, x, .int .i64 n] 44)).heap[w.heap.size]? = some (.cells #[.int .i64 kd, .string a, .string b, x, .int .i64 n] 44 (0, 0)) := (MapKept.heap_alloc _ _).1
  have hK0 : Keeps (fun _ => False) w (w.alloc (.cells #[.int .i64 kd, .string a, .string b, x, .int .i64 n] 44)) := Keeps.alloc _ _ _
  have key : ∀ W, Keeps (fun _ => False) (w.alloc (.cells #[.int .i64 kd, .string a, .string b, x, .int .i64 n] 44)) W → W.heap[w.heap.size]? = some (.cells #[.int .i64 kd, .string a, .string b, x, .int .i64 n] 44 (0, 0)) ∧ Keeps (fun _ => False) w W := fun W hW =>
    ⟨(hW.block _ (by simp) (fun h => h)).trans hO, hK0.trans hW⟩
  -- what the world holds ahead of the first region that draws
  have key2 : ∀ W, Keeps (fun _ => False) w W → ∀ V : World, V.heap = W.heap → (convert 22 9 x).run Try.prog V = .ok (.string ⟨l.toArray⟩) V := fun W hW V hV =>
    run_string_of (P := Try.prog) 22 9 5 Try.underlying22 Try.underlying5 Try.underlying9 _ _ V (hx.kept0 fun hn k hk => by rw [hV]; exact hW.block k (Nat.lt_of_lt_of_le (hxl hn k hk) hbase) (fun h => h))
  have key3 : ∀ W, Keeps (fun b => ¬ b < base) w W → Bytes W x l ∧ (l ≠ [] → ∀ k, x.ownBlock = some k → k < W.heap.size) := fun W hW =>
    ⟨hx.kept0 fun hn k hk => hW.block k (Nat.lt_of_lt_of_le (hxl hn k hk) hbase) (fun h => h (hxl hn k hk)), fun hn k hk => Nat.lt_of_lt_of_le (hxl hn k hk) (Nat.le_trans hbase hW.size)⟩
  have hxM : l ≠ [] → ∀ k, x.ownBlock = some k → k ≠ M := fun hn k hk e => by have := hd.is.lo.2.1; have := hxl hn k hk; omega
  have HXM := Lib.hid hxM
  have HK2 := Lib.hid key2
  have HK3 := Lib.hid key3
  have ns : Named s := hs ▸ five_named _
  have HNS := Lib.hid ns
  have HS := Lib.hid hs
  have HKEY := Lib.hid key
  have HB := Lib.hid hb
  have HD := Lib.hid hd
  have HP := Lib.hid hp
  have hm : ((absN kd : Nat) : Int) % 6 = 2 := by omega
  obtain ⟨m, hmm⟩ : ∃ m, m = absN kd := ⟨_, rfl⟩
  rw [← hmm] at hm
  have HM := Lib.hid hmm
  clear key key2 key3 hb hd hp hO hK0 h3 hmm hs ns hx hxl hxM
  go_enter Try.func15, Try.ntmps15
  go_wp2_with (first
    | (go_at_call 24; refine (name_is a.size _ ha).mono ?_; rintro e w1 ⟨rfl, hk1⟩; rw [← HS.out]; obtain ⟨hO, hK⟩ := HKEY.out _ hk1; have HK := Lib.hid hK; have o0 : w1.cell? ⟨w.heap.size, 0, none⟩ = some (.int .i64 kd) := (by simp [World.cell?, hO]); have o3 : w1.cell? ⟨w.heap.size, 3, none⟩ = some x := (by simp [World.cell?, hO]); clear hk1 hO hK)
    | (go_at_call 25; refine (at_there (HB.out.keeps HK.out fun _ _ h => h) (by omega) s HP.out).mono ?_; rintro e w' ⟨i, rfl, hi, rfl⟩; have HI := Lib.hid hi; have hi0 := hi.1; clear hi)
    | (go_at_call 9; refine (abs_is kd _ hkd.1 hkd.2).mono ?_; rintro e w' ⟨rfl, rfl⟩; rw [← HM.out]))
  have hb1 := HB.out.keeps HK.out fun _ _ h => h
  have hcv := HK2.out _ HK.out w1.drew rfl
  obtain ⟨_, y, z, hy, d0, d1, d2, d3, d4, d5, d6, d7, d8⟩ := hb1.is.facts hi0
  have HY := Lib.hid hy
  have hys := hb1.size y (List.mem_of_getElem? hy)
  obtain ⟨str, hstr⟩ : ∃ str : ByteArray, str = ⟨l.toArray⟩ := ⟨_, rfl⟩
  have hss : str.size ≤ 1048576 := by rw [hstr]; simpa [ByteArray.size] using hl
  rw [← hstr] at hcv
  have hsz : ¬ 9223372036854775807 < y.size + str.size := by omega
  clear hstr
  have HB1 := Lib.hid hb1
  clear hb1 hy
  have kb : Keeps (BFoot K (.slice (some ⟨g0, 0, none⟩) bn.length c0) (.slice (some ⟨g1, 0, none⟩) bn.length c1) (.slice (some ⟨g2, 0, none⟩) bn.length c2)) w1 (w1.setCell ⟨g1, i, none⟩ (.string (y ++ str))).drew := (Keeps.setCell w1 _ _ fun _ => .inr (.inr (.inl rfl))).trans (Keeps.drew _ _)
  have hbk : BGood (w1.setCell ⟨g1, i, none⟩ (.string (y ++ str))).drew base K bn (bb.set i (y ++ str)) bs (.slice (some ⟨g0, 0, none⟩) bn.length c0) (.slice (some ⟨g1, 0, none⟩) bn.length c1) (.slice (some ⟨g2, 0, none⟩) bn.length c2) (fun t => P t ∨ t = s) (k + 1) :=
    ⟨(Book.set_bytes HB1.out.is i (y ++ str)).drew, HB1.out.nodup, fun t => (HB1.out.mem t).trans ⟨.inl, fun h => h.elim id fun e => e ▸ HP.out⟩, Nat.le_succ_of_le HB1.out.len, set_size HB1.out.size HY.out hss⟩
  have hdw := DGood.atW HB.out HD.out HK.out kb
  have hxw := HK3.out _ ((HK.out.mono fun _ _ h => h.elim).trans (kb.mono fun b _ h => Nat.not_lt.2 (HB.out.is.lt h).1))
  have hsw : base ≤ (w1.setCell ⟨g1, i, none⟩ (.string (y ++ str))).drew.heap.size := Nat.le_trans hbase (Nat.le_trans HK.out.size kb.size)
  have o3' : (w1.setCell ⟨g1, i, none⟩ (.string (y ++ str))).cell? ⟨w.heap.size, 3, none⟩ = some x := by
    have h1 := HB.out.is.lt (b := g1) (.inr (.inr (.inl rfl)))
    have h2 : (w1.setCell ⟨g1, i, none⟩ (.string (y ++ str))).heap[w.heap.size]? = w1.heap[w.heap.size]? := Below.heap_setCell _ _ _ _ (by simp only; omega)
    rw [← o3]
    simp only [World.cell?, h2]
  have HKB := Lib.hid kb
  have HBK := Lib.hid hbk
  have HDW := Lib.hid hdw
  have HXW := Lib.hid hxw
  clear kb hbk hdw hxw
  go_still_tail 17, (by kernel_rfl)
  change wpList _ _ _ _ _ w1.drew
  go_wp2_with (go_at_call 7; refine (app_res base D M S P k s x l _ HDW.out (by omega) HNS.out HXW.out.1 HXW.out.2 HXM.out hl hsw).mono ?_; rintro e w3 ⟨r, rfl, hres⟩; have HRES := Lib.hid hres; clear hres)
  go_ret
  refine ⟨_, rfl, note_app_end HB.out HD.out HK.out HKB.out HBK.out (fun b h => .inl h) HRES.out trivial ?_⟩
  constructor <;> rintro rfl <;> rfl

end Go.Proofs.Ytigbodokmkpohaa
