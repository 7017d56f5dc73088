/- DiskCounts, walked. -/
import Derived.Test.YtigbodokmkpohaaNk
namespace Go.Proofs.Ytigbodokmkpohaa
open Go.RowKit

/-- A new book. -/
theorem book_new {w : World} {base N : Nat} (hN : w.heap[N]? = some (.cells #[.slice none 0 0, .slice none 0 0, .slice none 0 0] 39 (0, 0))) (hb : base ≤ N) : BGood w base N [] [] [] (.slice none 0 0) (.slice none 0 0) (.slice none 0 0) (fun _ => False) 0 :=
  ⟨⟨hN, WRow.nil _ _ _, WRow.nil _ _ _, WRow.nil _ _ _, hb, ⟨rfl, rfl⟩, fun k h => by cases h⟩, List.nodup_nil, fun s => by simp, Nat.le_refl _, fun b hb => by cases hb⟩

theorem bfoot_new {N b : Nat} (h : BFoot N (.slice none 0 0) (.slice none 0 0) (.slice none 0 0) b) : b = N := by
  rcases h with h | h | h | h
  · exact h
  · cases h
  · cases h
  · cases h

theorem start_inv {w w0 w1 w2 : World} {at_ part : Int} (hp : -9223372036854775808 ≤ part ∧ part ≤ 9223372036854775807) (k0 : Keeps (fun _ => False) w w0) (k1 : Keeps (fun _ => False) w0 w1) (k2 : Keeps (fun _ => False) w1 w2)
    (d1 : DiskIs w1 w.heap.size (w0.heap.size + 1) w0.heap.size DS.none) (o1 : Owned w1 w.heap.size DS.none) (d2 : DiskIs w2 w.heap.size (w1.heap.size + 1) w1.heap.size DS.none) (o2 : Owned w2 w.heap.size DS.none) (W : World)
    (hW : W = (w2.alloc (.cells #[.slice none 0 0, .slice none 0 0, .slice none 0 0] 39)).alloc (.cells #[.slice none 0 0, .slice none 0 0, .slice none 0 0] 39)) :
    (∃ x3 x4, W.heap[w0.heap.size + 1]? = some (.cells #[.map (some w0.heap.size), .bool false, .int .i64 0, x3, x4] 49 (0, 0))) ∧
    CInv w (w0.heap.size + 1) w0.heap.size (w1.heap.size + 1) w1.heap.size w2.heap.size (w2.heap.size + 1) at_ 0 0 (fun _ => False) ((W.setCell ⟨w0.heap.size + 1, 3, none⟩ (.int .i64 at_)).setCell ⟨w0.heap.size + 1, 4, none⟩ (.int .i64 part)) := by
  have s0 := k0.size
  have s1 := d1.D_lt
  have s2 := d2.D_lt
  have l1 := d1.map.lt
  have l2 := d2.map.lt
  have hs : (w2.alloc (.cells #[.slice none 0 0, .slice none 0 0, .slice none 0 0] 39)).heap.size = w2.heap.size + 1 := by simp
  have hK : Keeps (fun _ => False) w2 W := by rw [hW]; exact (Keeps.alloc _ _ _).trans (Keeps.alloc _ _ _)
  have b1 : W.heap[w2.heap.size]? = some (.cells #[.slice none 0 0, .slice none 0 0, .slice none 0 0] 39 (0, 0)) := by
    rw [hW, Below.heap_alloc _ _ _ (by omega)]; exact (MapKept.heap_alloc _ _).1
  have b2 : W.heap[w2.heap.size + 1]? = some (.cells #[.slice none 0 0, .slice none 0 0, .slice none 0 0] 39 (0, 0)) := by
    rw [hW, ← hs]; exact (MapKept.heap_alloc _ _).1
  have e1 : W.heap[w0.heap.size + 1]? = some (.cells #[.map (some w0.heap.size), .bool false, .int .i64 0, .int .i64 (-1), .int .i64 0] 49 (0, 0)) :=
    (hK.block _ (by omega) id).trans ((k2.block _ s1 id).trans d1.disk)
  have sw : w2.heap.size ≤ W.heap.size := hK.size
  obtain ⟨V, hV⟩ : ∃ V, V = (W.setCell ⟨w0.heap.size + 1, 3, none⟩ (.int .i64 at_)).setCell ⟨w0.heap.size + 1, 4, none⟩ (.int .i64 part) := ⟨_, rfl⟩
  have o : ∀ b, b ≠ w0.heap.size + 1 → V.heap[b]? = W.heap[b]? := fun b hb => by rw [hV, Below.heap_setCell _ _ _ _ hb, Below.heap_setCell _ _ _ _ hb]
  have e2 : V.heap[w0.heap.size + 1]? = some (.cells #[.map (some w0.heap.size), .bool false, .int .i64 0, .int .i64 at_, .int .i64 part] 49 (0, 0)) := by
    rw [hV, heap_setCell_at (heap_setCell_at e1 _)]; simp
  have kV : Keeps (fun b => b = w0.heap.size + 1) W V := by rw [hV]; exact (Keeps.setCell (F := fun b => b = w0.heap.size + 1) _ _ _ (fun _ => rfl)).trans (Keeps.setCell _ _ _ (fun _ => rfl))
  refine ⟨⟨_, _, e1⟩, ?_⟩
  rw [← hV]
  refine ⟨{ DS.none with cutAt := at_, part := part }, DS.none, [], [], [], .slice none 0 0, .slice none 0 0, .slice none 0 0, [], [], [], .slice none 0 0, .slice none 0 0, .slice none 0 0, book_new ((o _ (by omega)).trans b1) (by omega), book_new ((o _ (by omega)).trans b2) (by omega), ?_, ?_, rfl, rfl, rfl, rfl, ?_, ?_, ?_⟩
  · refine ⟨⟨e2, ?_, (fun s f hf => by cases hf), (fun s f hf => by cases hf), ⟨by omega, by omega, (fun s f hf => by cases hf)⟩, (fun s t f g hf => by cases hf)⟩, ⟨(fun s f hf => by cases hf), (fun s t f g k hf => by cases hf)⟩, rfl, Nat.le_refl _, Nat.le_refl _, hp, fun s => ⟨(fun ⟨f, hf⟩ => by cases hf), fun h => h.elim⟩, (fun s f hf => by cases hf)⟩
    exact d1.map.kept ((o _ (by omega)).trans ((hK.block _ (by omega) id).trans (k2.block _ l1 id)))
  · have hk2 : ∀ b, Foot (w1.heap.size + 1) w1.heap.size DS.none b → V.heap[b]? = w2.heap[b]? := fun b hb => by
      have hlt := Foot.lt d2 o2 hb
      have hne : b ≠ w0.heap.size + 1 := by
        rcases hb with h | h | ⟨s, f, hf, _⟩
        · omega
        · omega
        · cases hf
      exact (o b hne).trans (hK.block b hlt id)
    exact ⟨d2.kept hk2, o2.kept hk2, rfl, Nat.le_refl _, Nat.le_refl _, by decide, fun s => ⟨(fun ⟨f, hf⟩ => by cases hf), fun h => h.elim⟩, (fun s f hf => by cases hf)⟩
  · intro b h1 h2
    have := bfoot_new h1; have := bfoot_new h2; omega
  · intro b h1 h2
    rcases h1 with h1 | h1 | ⟨s, f, hf, _⟩
    · rcases h2 with h2 | h2 | ⟨s, f, hf, _⟩
      · omega
      · omega
      · cases hf
    · rcases h2 with h2 | h2 | ⟨s, f, hf, _⟩
      · omega
      · omega
      · cases hf
    · cases hf
  · exact keeps_new (((k0.trans k1).trans k2).trans hK) kV (fun b hb => by rw [hb]; omega)

theorem op_cells {w : World} {A : Addr} {v0 v1 v2 v3 v4 : Value} (h : w.cell? (A.add 0) = some v0 ∧ w.cell? (A.add 1) = some v1 ∧ w.cell? (A.add 2) = some v2 ∧ w.cell? (A.add 3) = some v3 ∧ w.cell? (A.add 4) = some v4) :
    w.cell? A = some v0 ∧ w.cell? ⟨A.block, A.off + 1, none⟩ = some v1 ∧ w.cell? ⟨A.block, A.off + 2, none⟩ = some v2 ∧ w.cell? ⟨A.block, A.off + 3, none⟩ = some v3 ∧ w.cell? ⟨A.block, A.off + 4, none⟩ = some v4 := h

theorem CInv.d {w0 : World} {D1 M1 D2 M2 K1 K2 : Nat} {at_ : Int} {i n : Nat} {P : ByteArray → Prop} {w : World} (h : CInv w0 D1 M1 D2 M2 K1 K2 at_ i n P w) :
    (∃ x3 x4, w.heap[D1]? = some (.cells #[.map (some M1), .bool false, .int .i64 n, x3, x4] 49 (0, 0))) ∧ (∃ x3 x4, w.heap[D2]? = some (.cells #[.map (some M2), .bool false, .int .i64 n, x3, x4] 49 (0, 0))) ∧ Keeps (fun _ => False) w0 w := by
  obtain ⟨S, T, bn, bb, bs, u0, u1, u2, cn, cb, cs, y0, y1, y2, h1, h2, h3, h4, h5, h6, h7, h8, h9, h10, h11⟩ := h
  have a := h3.is.disk
  have b := h4.is.disk
  rw [h3.off, h7] at a
  rw [h4.off, h8] at b
  exact ⟨⟨_, _, a⟩, ⟨_, _, b⟩, h11⟩

theorem CMid.d {w0 : World} {D1 M1 D2 M2 K1 K2 : Nat} {at_ : Int} {i n : Nat} {P P' : ByteArray → Prop} {C : Prop} {w : World} (h : CMid w0 D1 M1 D2 M2 K1 K2 at_ i n P P' C w) :
    (C → ∃ x1 x3 x4, w.heap[D2]? = some (.cells #[.map (some M2), x1, .int .i64 (n + 1), x3, x4] 49 (0, 0))) ∧ (¬ C → ∃ x1 x3 x4, w.heap[D2]? = some (.cells #[.map (some M2), x1, .int .i64 n, x3, x4] 49 (0, 0))) ∧ Keeps (fun _ => False) w0 w := by
  obtain ⟨S, T, bn, bb, bs, u0, u1, u2, cn, cb, cs, y0, y1, y2, h1, h2, h3, h4, h5, h6, h7, h8, h8', h9, h10, h11⟩ := h
  have b := h4.is.disk
  refine ⟨fun c => ?_, fun c => ?_, h11⟩
  · rw [h8 c, show ((n + 1 : Nat) : Int) = (n : Int) + 1 from rfl] at b; exact ⟨_, _, _, b⟩
  · rw [h8' c] at b; exact ⟨_, _, _, b⟩

set_option maxHeartbeats 1600000 in
set_option maxRecDepth 100000 in
theorem diskCounts_walk (A : Option Addr) (len cap : Nat) (at_ part : Int) (w : World) (ha : -9223372036854775808 ≤ at_ ∧ at_ ≤ 9223372036854775807) (hp : -9223372036854775808 ≤ part ∧ part ≤ 9223372036854775807)
    (hsc : ∀ i, i < len → ∃ ad, A = some ad ∧ ∃ kd n a b x l, OpIs w kd n a b x l ∧ ∀ w', Keeps (fun _ => False) w w' → w'.cell? ((ad.add (i * 5)).add 0) = some (.int .i64 kd) ∧ w'.cell? ((ad.add (i * 5)).add 1) = some (.string a) ∧ w'.cell? ((ad.add (i * 5)).add 2) = some (.string b) ∧ w'.cell? ((ad.add (i * 5)).add 3) = some x ∧ w'.cell? ((ad.add (i * 5)).add 4) = some (.int .i64 n)) (hlc : len ≤ cap) :
    Calls Try.prog 4 #[.slice A len cap, .int .i64 at_, .int .i64 part] w fun e w' => e = .returned (.bool true) ∧ Keeps (fun _ => False) w w' := by
  have HSC := Lib.hid hsc
  clear hsc
  go_enter Try.func4, Try.ntmps4
  go_wp2_with (first
    | (go_at_call 5; refine (awake_true _).mono ?_; rintro e w0 ⟨rfl, hk0⟩; have K0 := Lib.hid hk0; clear hk0)
    | (go_at_call 9; refine (abs_is at_ _ ha.1 ha.2).mono ?_; rintro e w' ⟨rfl, rfl⟩; (obtain ⟨m, hm⟩ : ∃ m, m = absN at_ := ⟨_, rfl⟩); rw [← hm]; clear hm))
  refine (new_is w0 w.heap.size K0.out.size).mono ?_
  rintro e w1 ⟨rfl, hd1, ho1, hk1⟩
  have HD1 := Lib.hid hd1
  have HO1 := Lib.hid ho1
  have K1 := Lib.hid hk1
  clear hd1 ho1 hk1
  go_wp2_with fail
  refine (new_is w1 w.heap.size (Nat.le_trans K0.out.size K1.out.size)).mono ?_
  rintro e w2 ⟨rfl, hd2, ho2, hk2⟩
  have HD2 := Lib.hid hd2
  have HO2 := Lib.hid ho2
  have K2 := Lib.hid hk2
  clear hd2 ho2 hk2
  go_wp2_with fail
  obtain ⟨⟨x3, x4, hd3⟩, hinv⟩ := start_inv (at_ := (m : Int) % 60) hp K0.out K1.out K2.out HD1.out HO1.out HD2.out HO2.out _ rfl
  have HD3 := Lib.hid hd3
  have HINV := Lib.hid hinv
  clear hd3 hinv
  refine (cutAt_is _ _ _ _ _ _ _ _ _ HD3.out).mono ?_
  rintro e w3 ⟨rfl, hw3⟩
  have hinv := HINV.out
  rw [← hw3] at hinv
  have HC := Lib.hid hinv
  clear hw3 hinv HD3 HINV HD1 HO1 HD2 HO2 K0 K1 K2
  obtain ⟨D1, hD1⟩ : ∃ D1, D1 = w0.heap.size + 1 := ⟨_, rfl⟩
  obtain ⟨M1, hM1⟩ : ∃ M1, M1 = w0.heap.size := ⟨_, rfl⟩
  obtain ⟨D2, hD2⟩ : ∃ D2, D2 = w1.heap.size + 1 := ⟨_, rfl⟩
  obtain ⟨M2, hM2⟩ : ∃ M2, M2 = w1.heap.size := ⟨_, rfl⟩
  obtain ⟨N2, hN2⟩ : ∃ N2, N2 = w2.heap.size + 1 := ⟨_, rfl⟩
  obtain ⟨N1, hN1⟩ : ∃ N1, N1 = w2.heap.size := ⟨_, rfl⟩
  rw [← hD1, ← hM1, ← hD2, ← hM2, ← hN2, ← hN1] at HC
  rw [← hD1, ← hD2, ← hN2, ← hN1]
  clear hD1 hM1 hD2 hM2 hN2 hN1
  go_wp2_with fail
  go_loopw [12] (fun i wr => ∃ (k n : Nat) (P : ByteArray → Prop), k ≤ len ∧ k ≤ 80 ∧ i = .int .i64 k ∧ CInv w D1 M1 D2 M2 N1 N2 ((m : Int) % 60) k n P wr) (fun i _ => 80 - (intOf i).toNat)
  case atStart => exact ⟨0, 0, _, by omega, by omega, rfl, HC.out⟩
  case round =>
    obtain ⟨k, n, P, hk1, hk2, rfl, hc⟩ := hrel
    obtain ⟨⟨z3, z4, f1⟩, ⟨y3, y4, f2⟩, kr⟩ := hc.d
    have HC := Lib.hid hc
    have F1 := Lib.hid f1
    have F2 := Lib.hid f2
    have KR := Lib.hid kr
    clear hc f1 f2 kr
    by_cases hlt : k < len ∧ k < 80
    · obtain ⟨ad, rfl, kd, q, a, b, x, l, hop, hcell⟩ := HSC.out k hlt.1
      have HOP := Lib.hid hop
      have HCELL := Lib.hid hcell
      clear hop hcell
      obtain ⟨j0, j1, j2, j3, j4⟩ := op_cells (HCELL.out _ KR.out)
      obtain ⟨hlt1, hlt2⟩ := hlt
      go_wp2_with fail
      refine (ops_is D1 _ _ _ _ n _ F1.out).mono ?_
      rintro e w' ⟨rfl, rfl⟩
      go_wp2_with fail
      refine (ops_is D2 _ _ _ _ n _ F2.out).mono ?_
      rintro e w' ⟨rfl, rfl⟩
      go_wp2_with fail
      refine (off_is D1 _ _ _ _ false _ F1.out).mono ?_
      rintro e w' ⟨rfl, rfl⟩
      go_wp2_with fail
      refine (step_whole HC.out (by omega) HOP.out).mono ?_
      rintro e w4 ⟨rfl, hmid⟩
      obtain ⟨hg1, hg2, kr4⟩ := hmid.d
      have HMID := Lib.hid hmid
      have HG1 := Lib.hid hg1
      have HG2 := Lib.hid hg2
      have KR4 := Lib.hid kr4
      obtain ⟨i0, i1, i2, i3, i4⟩ := op_cells (HCELL.out _ kr4)
      clear hmid hg1 hg2 kr4 j0 j1 j2 j3 j4
      by_cases hC : isCounted (absN kd % 6) (five (a.size % 5)) P
      · obtain ⟨e1, e3, e4, hd2⟩ := HG1.out hC
        have HCC := Lib.hid hC
        have HDD := Lib.hid hd2
        have hgt : (n : Int) < (n : Int) + 1 := by omega
        clear hC hd2
        go_wp2_with fail
        refine (ops_is D2 _ _ _ _ _ _ HDD.out).mono ?_
        rintro e w' ⟨rfl, rfl⟩
        go_wp2_with fail
        refine (step_d HMID.out (by omega) HOP.out).mono ?_
        rintro e w5 ⟨r, rfl, kr5, hr⟩
        have KR5 := Lib.hid kr5
        clear kr5 i0 i1 i2 i3 i4
        by_cases hn : (n : Int) = (m : Int) % 60
        · rcases hr with ⟨rfl, hcn, _⟩ | ⟨rfl, _, _, s3, s4, hdd⟩
          · exact absurd hn (hcn HCC.out)
          · have HOFF := Lib.hid hdd
            clear hdd
            go_wp2_with fail
            refine (off_is D1 _ _ _ _ true _ HOFF.out).mono ?_
            rintro e w' ⟨rfl, rfl⟩
            go_wp2_with fail
            refine (ops_is D1 _ _ _ _ _ _ HOFF.out).mono ?_
            rintro e w' ⟨rfl, rfl⟩
            go_wp2_with fail
            go_ret
            exact ⟨rfl, KR5.out⟩
        · rcases hr with ⟨rfl, hcn, n', hinv⟩ | ⟨_, _, hat, _⟩
          · have HINV := Lib.hid hinv
            clear hinv hcn
            go_wp2_with fail
            go_roundw
            case rel => exact ⟨k + 1, n', _, by omega, by omega, by go_num, HINV.out⟩
            case measure => simp [intOf]; omega
          · exact absurd hat hn
      · obtain ⟨e1, e3, e4, hd2⟩ := HG2.out hC
        have HCC := Lib.hid hC
        have HDD := Lib.hid hd2
        clear hC hd2
        go_wp2_with fail
        refine (ops_is D2 _ _ _ _ _ _ HDD.out).mono ?_
        rintro e w' ⟨rfl, rfl⟩
        go_wp2_with fail
        refine (step_d HMID.out (by omega) HOP.out).mono ?_
        rintro e w5 ⟨r, rfl, kr5, hr⟩
        clear kr5 i0 i1 i2 i3 i4
        rcases hr with ⟨rfl, hcn, n', hinv⟩ | ⟨_, hcc, _⟩
        · have HINV := Lib.hid hinv
          clear hinv hcn
          go_wp2_with fail
          go_roundw
          case rel => exact ⟨k + 1, n', _, by omega, by omega, by go_num, HINV.out⟩
          case measure => simp [intOf]; omega
        · exact absurd hcc HCC.out
    · have hg : ¬ ((k : Int) < (len : Int)) ∨ ((k : Int) < (len : Int) ∧ ¬ (k : Int) < 80) := by omega
      clear hlt
      rcases hg with hg | ⟨hg, hg2⟩
      all_goals
        go_wp2_with fail
        refine (off_is D1 _ _ _ _ false _ F1.out).mono ?_
        rintro e w' ⟨rfl, rfl⟩
        go_wp2_with fail
        refine (ops_is D1 _ _ _ _ n _ F1.out).mono ?_
        rintro e w' ⟨rfl, rfl⟩
        go_wp2_with fail
        refine (ops_is D2 _ _ _ _ n _ F2.out).mono ?_
        rintro e w' ⟨rfl, rfl⟩
        go_wp2_with fail
        go_ret
        exact ⟨rfl, KR.out⟩

end Go.Proofs.Ytigbodokmkpohaa
