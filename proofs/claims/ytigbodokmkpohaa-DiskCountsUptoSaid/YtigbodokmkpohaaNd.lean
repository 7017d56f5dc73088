/- Sync and Remove, noted. -/
import Derived.Test.YtigbodokmkpohaaNc
namespace Go.Proofs.Ytigbodokmkpohaa
open Go.RowKit

theorem Book.rows {w : World} {base K : Nat} {bn bb : List ByteArray} {bs : List Int} {v0 v1 v2 : Value} (h : Book w base K bn bb bs v0 v1 v2) (hn : 0 < bn.length) :
    ∃ g0 c0 g1 c1 g2 c2, v0 = .slice (some ⟨g0, 0, none⟩) bn.length c0 ∧ v1 = .slice (some ⟨g1, 0, none⟩) bn.length c1 ∧ v2 = .slice (some ⟨g2, 0, none⟩) bn.length c2 := by
  obtain ⟨a0, c0, hv0⟩ := h.names.slice
  obtain ⟨a1, c1, hv1⟩ := h.bytes.slice
  obtain ⟨a2, c2, hv2⟩ := h.synced.slice
  have h0 := h.names
  have h1 := h.bytes
  have h2 := h.synced
  rw [hv0] at h0; rw [hv1] at h1; rw [hv2] at h2
  obtain ⟨g0, rfl⟩ := h0.addr (by simpa using hn)
  obtain ⟨g1, rfl⟩ := h1.addr (by simp; have := h.len; omega)
  obtain ⟨g2, rfl⟩ := h2.addr (by simp; have := h.len; omega)
  refine ⟨g0, c0, g1, c1, g2, c2, by rw [hv0]; simp, by rw [hv1]; simp [h.len.1], by rw [hv2]; simp [h.len.2]⟩

theorem Book.facts {w : World} {base K g0 c0 g1 c1 g2 c2 : Nat} {bn bb : List ByteArray} {bs : List Int} (h : Book w base K bn bb bs (.slice (some ⟨g0, 0, none⟩) bn.length c0) (.slice (some ⟨g1, 0, none⟩) bn.length c1) (.slice (some ⟨g2, 0, none⟩) bn.length c2)) {i : Nat} (hi : i < bn.length) :
    ∃ (x y : ByteArray) (z : Int), bb[i]? = some y ∧ w.cell? ⟨K, 0, none⟩ = some (.slice (some ⟨g0, 0, none⟩) bn.length c0) ∧ w.cell? ⟨K, 1, none⟩ = some (.slice (some ⟨g1, 0, none⟩) bn.length c1) ∧ w.cell? ⟨K, 2, none⟩ = some (.slice (some ⟨g2, 0, none⟩) bn.length c2) ∧
      w.cell? ⟨g0, i, none⟩ = some (.string x) ∧ w.cell? ⟨g1, i, none⟩ = some (.string y) ∧ w.cell? ⟨g2, i, none⟩ = some (.int .i64 z) ∧ w.frozen? ⟨g0, i, none⟩ = false ∧ w.frozen? ⟨g1, i, none⟩ = false ∧ w.frozen? ⟨g2, i, none⟩ = false := by
  have hc := h.cells
  have l0 := h.len
  have h0 := h.names.cellAt (j := i) (by simpa using hi)
  have h1 := h.bytes.cellAt (j := i) (by simp; omega)
  have h2 := h.synced.cellAt (j := i) (by simp; omega)
  simp only [List.getElem_map] at h0 h1 h2
  exact ⟨_, _, _, List.getElem?_eq_getElem (by omega), by simp [World.cell?, hc], by simp [World.cell?, hc], by simp [World.cell?, hc], h0.1, h1.1, h2.1, h0.2, h1.2, h2.2⟩

theorem Keeps.drew (F : Nat → Prop) (w : World) : Keeps F w w.drew := ⟨rfl, rfl, rfl, Nat.le_refl _, fun _ _ _ => rfl⟩
theorem Book.drew {w : World} {base K : Nat} {bn bb : List ByteArray} {bs : List Int} {v0 v1 v2 : Value} (h : Book w base K bn bb bs v0 v1 v2) : Book w.drew base K bn bb bs v0 v1 v2 := h.kept fun _ _ => rfl

/-- The end of a noted call that is counted. -/
theorem note_some_end {w w1 w2 w3 : World} {base K D M : Nat} {S : DS} {bn bb bn' bb' : List ByteArray} {bs bs' : List Int} {v0 v1 v2 u0 u1 u2 : Value} {P P' : ByteArray → Prop} {C : Prop} {k : Nat} {r : Int} {t : Bool}
    (hb : BGood w base K bn bb bs v0 v1 v2 P k) (hd : DGood w base D M S P k) (hk : Keeps (fun _ => False) w w1) (hres : DRes w1 base D M S P' k r w2) (hk3 : Keeps (BFoot K v0 v1 v2) w2 w3)
    (hb3 : BGood w3 base K bn' bb' bs' u0 u1 u2 P' (k + 1)) (hft : ∀ b, BFoot K u0 u1 u2 b → BFoot K v0 v1 v2 b ∨ w.heap.size ≤ b) (hC : C) (ht : (r = 0 → t = true) ∧ (r = 122 → t = false)) :
    NRes w base K D M S v0 v1 v2 P' C k t w3 := by
  have hb1 := hb.keeps hk fun _ _ h => h
  have hd1 := hd.keeps hk fun _ _ h => h
  have ap1 := hb1.is.apart_disk hd1.is hd1.own
  have hb2 := hb1.keeps hres.1 ap1
  have hs := hk.size
  refine ⟨((hk.mono fun _ _ h => h.elim).trans (hres.1.mono fun b _ h => .inr h)).trans (hk3.mono fun b _ h => .inl h), ?_⟩
  rcases hres.2 with ⟨hr, hat, S', h1, h2, h3, h4⟩ | ⟨hr, hat, x3, x4, hD⟩
  · refine .inl ⟨ht.1 hr, fun _ => hat, ⟨S', h1.keeps hk3 fun b hf hbf => hb2.is.apart_disk h1.is h1.own b hbf hf, fun _ => h2, fun h => absurd hC h, h3, fun b hf => (h4 b hf).imp id fun h => by omega⟩, ⟨bn', bb', bs', u0, u1, u2, hb3, hft⟩⟩
  · refine .inr ⟨ht.2 hr, hC, hat, x3, x4, (hk3.block D (Array.getElem?_eq_some_iff.1 hD).1 fun h => ap1 D h (.inl rfl)).trans hD⟩

set_option maxHeartbeats 1600000 in
set_option maxRecDepth 100000 in
theorem note_sync_some (base K D M : Nat) (S : DS) (bn bb : List ByteArray) (bs : List Int) (v0 v1 v2 : Value) (P : ByteArray → Prop) (k : Nat) (kd n : Int) (a b : ByteArray) (x : Value) (w : World) (hb : BGood w base K bn bb bs v0 v1 v2 P k) (hd : DGood w base D M S P k) (hk : k ≤ 90)
    (hkd : -9223372036854775808 ≤ kd ∧ kd ≤ 9223372036854775807) (ha : a.size ≤ 9223372036854775807) (h3 : absN kd % 6 = 3) (hp : P (five (a.size % 5))) :
    Calls Try.prog 15 #[.pointer (some ⟨K, 0, none⟩), .pointer (some ⟨D, 0, none⟩), opV kd a b x n] w fun e w' => ∃ r, e = .returned (.bool r) ∧ NRes w base K D M S v0 v1 v2 P (P (five (a.size % 5))) k r w' := by
  unfold opV
  obtain ⟨g0, c0, g1, c1, g2, c2, rfl, rfl, rfl⟩ := hb.is.rows (List.length_pos_of_mem ((hb.mem _).2 hp))
  have hO : (w.alloc (.cells #[.int .i64 kd, .string a, .string b, x, .int .i64 n] 44)).heap[w.heap.size]? = some (.cells #[.int .i64 kd, .string a, .string b, x, .int .i64 n] 44 (0, 0)) := (MapKept.heap_alloc _ _).1
  have hK0 : Keeps (fun _ => False) w (w.alloc (.cells #[.int .i64 kd, .string a, .string b, x, .int .i64 n] 44)) := Keeps.alloc _ _ _
  have key : ∀ W, Keeps (fun _ => False) (w.alloc (.cells #[.int .i64 kd, .string a, .string b, x, .int .i64 n] 44)) W → W.heap[w.heap.size]? = some (.cells #[.int .i64 kd, .string a, .string b, x, .int .i64 n] 44 (0, 0)) ∧ Keeps (fun _ => False) w W := fun W hW =>
    ⟨(hW.block _ (by simp) (fun h => h)).trans hO, hK0.trans hW⟩
  have HKEY := Lib.hid key
  have HB := Lib.hid hb
  have HD := Lib.hid hd
  have HP := Lib.hid hp
  have hm : ((absN kd : Nat) : Int) % 6 = 3 := by omega
  obtain ⟨m, hmm⟩ : ∃ m, m = absN kd := ⟨_, rfl⟩
  rw [← hmm] at hm
  have HM := Lib.hid hmm
  clear key hb hd hp hO hK0 h3 hmm
  go_enter Try.func15, Try.ntmps15
  go_wp2_with (first
    | (go_at_call 24; refine (name_is a.size _ ha).mono ?_; rintro e w1 ⟨rfl, hk1⟩; obtain ⟨hO, hK⟩ := HKEY.out _ hk1; have HK := Lib.hid hK; have o0 : w1.cell? ⟨w.heap.size, 0, none⟩ = some (.int .i64 kd) := (by simp [World.cell?, hO]); clear hk1 hO hK)
    | (go_at_call 25; refine (at_there (HB.out.keeps HK.out fun _ _ h => h) (by omega) _ HP.out).mono ?_; rintro e w' ⟨i, rfl, hi, rfl⟩; have HI := Lib.hid hi; have hi0 := hi.1; clear hi)
    | (go_at_call 9; refine (abs_is kd _ hkd.1 hkd.2).mono ?_; rintro e w' ⟨rfl, rfl⟩; rw [← HM.out])
    | (go_at_call 16; refine (sync_res base D M S P k _ _ (HD.out.keeps HK.out fun _ _ h => h) (by omega) (five_named _) HP.out).mono ?_; rintro e w2 ⟨r, rfl, hres⟩; have HRES := Lib.hid hres; have hb2 := (HB.out.keeps HK.out fun _ _ h => h).keeps hres.1 ((HB.out.keeps HK.out fun _ _ h => h).is.apart_disk (HD.out.keeps HK.out fun _ _ h => h).is (HD.out.keeps HK.out fun _ _ h => h).own); have HB2 := Lib.hid hb2; obtain ⟨_, y, z, hy, d0, d1, d2, d3, d4, d5, d6, d7, d8⟩ := hb2.is.facts hi0; have HY := Lib.hid hy; clear hy hres hb2 o0))
  go_still_tail 14, (by kernel_rfl)
  change wpList _ _ _ _ _ w2.drew
  go_wp2_with fail
  go_ret
  refine ⟨_, rfl, note_some_end HB.out HD.out HK.out HRES.out (w3 := w2.drew.setCell ⟨g2, i, none⟩ (.int .i64 y.size)) ((Keeps.drew _ w2).trans (Keeps.setCell w2.drew _ _ fun _ => .inr (.inr (.inr rfl)))) ⟨(Book.set_synced HB2.out.is.drew i y.size), HB2.out.nodup, HB2.out.mem, Nat.le_succ_of_le HB2.out.len, HB2.out.more.size⟩ (fun b h => .inl h) HP.out ?_⟩
  constructor <;> rintro rfl <;> rfl

end Go.Proofs.Ytigbodokmkpohaa
