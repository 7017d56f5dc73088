/- Two disks and two books, one call of the script on each. -/
import Derived.Test.YtigbodokmkpohaaNj
namespace Go.Proofs.Ytigbodokmkpohaa
open Go.RowKit

/-- An operation of the script, as the memory holds it in every world that keeps what came in. -/
structure OpIs (w0 : World) (kd n : Int) (a b : ByteArray) (x : Value) (l : List UInt8) : Prop where
  kd : -9223372036854775808 ≤ kd ∧ kd ≤ 9223372036854775807
  a : a.size ≤ 9223372036854775807
  b : b.size ≤ 9223372036854775807
  bytes : ∀ w, Keeps (fun _ => False) w0 w → Bytes w x l
  own : l ≠ [] → ∀ k, x.ownBlock = some k → k < w0.heap.size
  l : l.length ≤ 1048576

/-- The four, behind i calls: d is to go off at 'at'; 'whole' never. -/
def CInv (w0 : World) (D1 M1 D2 M2 K1 K2 : Nat) (at_ : Int) (i n : Nat) (P : ByteArray → Prop) (w : World) : Prop :=
  ∃ S T bn bb bs u0 u1 u2 cn cb cs y0 y1 y2,
    BGood w w0.heap.size K1 bn bb bs u0 u1 u2 P i ∧ BGood w w0.heap.size K2 cn cb cs y0 y1 y2 P i ∧ DGood w w0.heap.size D1 M1 S P i ∧ DGood w w0.heap.size D2 M2 T P i ∧
      S.cutAt = at_ ∧ T.cutAt = -1 ∧ S.ops = n ∧ T.ops = n ∧ (∀ b, BFoot K1 u0 u1 u2 b → ¬ BFoot K2 y0 y1 y2 b) ∧ (∀ b, Foot D1 M1 S b → ¬ Foot D2 M2 T b) ∧ Keeps (fun _ => False) w0 w

/-- .. where the call has been made on 'whole' alone. -/
def CMid (w0 : World) (D1 M1 D2 M2 K1 K2 : Nat) (at_ : Int) (i n : Nat) (P P' : ByteArray → Prop) (C : Prop) (w : World) : Prop :=
  ∃ S T bn bb bs u0 u1 u2 cn cb cs y0 y1 y2,
    BGood w w0.heap.size K1 bn bb bs u0 u1 u2 P' (i + 1) ∧ BGood w w0.heap.size K2 cn cb cs y0 y1 y2 P i ∧ DGood w w0.heap.size D1 M1 S P i ∧ DGood w w0.heap.size D2 M2 T P' (i + 1) ∧
      S.cutAt = at_ ∧ T.cutAt = -1 ∧ S.ops = n ∧ (C → T.ops = n + 1) ∧ (¬ C → T.ops = n) ∧ (∀ b, BFoot K1 u0 u1 u2 b → ¬ BFoot K2 y0 y1 y2 b) ∧ (∀ b, Foot D1 M1 S b → ¬ Foot D2 M2 T b) ∧ Keeps (fun _ => False) w0 w

theorem keeps_new {w0 w w' : World} {F : Nat → Prop} (h : Keeps (fun _ => False) w0 w) (hk : Keeps F w w') (hf : ∀ b, F b → w0.heap.size ≤ b) : Keeps (fun _ => False) w0 w' :=
  h.trans' hk fun b hb hF => by have := hf b hF; omega

theorem step_whole {w0 : World} {D1 M1 D2 M2 K1 K2 : Nat} {at_ : Int} {i n : Nat} {P : ByteArray → Prop} {kd m : Int} {a b : ByteArray} {x : Value} {l : List UInt8} {w : World} (h : CInv w0 D1 M1 D2 M2 K1 K2 at_ i n P w) (hi : i ≤ 90) (ho : OpIs w0 kd m a b x l) :
    Calls Try.prog 15 #[.pointer (some ⟨K1, 0, none⟩), .pointer (some ⟨D2, 0, none⟩), opV kd a b x m] w fun e w' => e = .returned (.bool true) ∧
      CMid w0 D1 M1 D2 M2 K1 K2 at_ i n P (nextP (absN kd % 6) (five (a.size % 5)) (five (b.size % 5)) P) (isCounted (absN kd % 6) (five (a.size % 5)) P) w' := by
  obtain ⟨S, T, bn, bb, bs, u0, u1, u2, cn, cb, cs, y0, y1, y2, h1, h2, h3, h4, h5, h6, h7, h8, h9, h10, h11⟩ := h
  have hs := h11.size
  refine (note_is w0.heap.size K1 D2 M2 T bn bb bs u0 u1 u2 P i kd m a b _ _ x l w h1 h4 hi hs ho.kd ho.a ho.b (ho.bytes w h11) ho.own ho.l rfl rfl).mono ?_
  rintro e w' ⟨r, rfl, hk, hr⟩
  rcases hr with ⟨rfl, hC, ⟨T', t1, t2, t3, t4, t5⟩, bn', bb', bs', v0, v1, v2, b1, b2⟩ | ⟨_, _, hat, _⟩
  · refine ⟨rfl, S, T', bn', bb', bs', v0, v1, v2, cn, cb, cs, y0, y1, y2, b1, h2.keeps hk ?_, h3.keeps hk ?_, t1, h5, t4.trans h6, h7, fun c => (t2 c).trans (by rw [h8]), fun c => (t3 c).trans h8, ?_, ?_, keeps_new h11 hk ?_⟩
    · intro b hb hF
      rcases hF with hF | hF
      · exact h9 b hF hb
      · exact h2.is.apart_disk h4.is h4.own b hb hF
    · intro b hb hF
      rcases hF with hF | hF
      · exact h1.is.apart_disk h3.is h3.own b hF hb
      · exact h10 b hb hF
    · intro b hb hF
      rcases b2 b hb with h | h
      · exact h9 b h hF
      · have := (h2.is.lt hF).2; omega
    · intro b hb hF
      rcases t5 b hF with h | h
      · exact h10 b hb h
      · have := Foot.lt h3.is h3.own hb; omega
    · intro b hF
      rcases hF with hF | hF
      · exact (h1.is.lt hF).1
      · exact Foot.lo h4.is h4.own hF
  · omega

theorem step_d {w0 : World} {D1 M1 D2 M2 K1 K2 : Nat} {at_ : Int} {i n : Nat} {P : ByteArray → Prop} {kd m : Int} {a b : ByteArray} {x : Value} {l : List UInt8} {w : World}
    (h : CMid w0 D1 M1 D2 M2 K1 K2 at_ i n P (nextP (absN kd % 6) (five (a.size % 5)) (five (b.size % 5)) P) (isCounted (absN kd % 6) (five (a.size % 5)) P) w) (hi : i ≤ 90) (ho : OpIs w0 kd m a b x l) :
    Calls Try.prog 15 #[.pointer (some ⟨K2, 0, none⟩), .pointer (some ⟨D1, 0, none⟩), opV kd a b x m] w fun e w' => ∃ r, e = .returned (.bool r) ∧ Keeps (fun _ => False) w0 w' ∧
      ((r = true ∧ (isCounted (absN kd % 6) (five (a.size % 5)) P → (n : Int) ≠ at_) ∧ ∃ n', CInv w0 D1 M1 D2 M2 K1 K2 at_ (i + 1) n' (nextP (absN kd % 6) (five (a.size % 5)) (five (b.size % 5)) P) w') ∨
       (r = false ∧ isCounted (absN kd % 6) (five (a.size % 5)) P ∧ (n : Int) = at_ ∧ ∃ x3 x4, w'.heap[D1]? = some (.cells #[.map (some M1), .bool true, .int .i64 (n + 1), x3, x4] 49 (0, 0)))) := by
  obtain ⟨S, T, bn, bb, bs, u0, u1, u2, cn, cb, cs, y0, y1, y2, h1, h2, h3, h4, h5, h6, h7, h8, h8', h9, h10, h11⟩ := h
  have hs := h11.size
  refine (note_is w0.heap.size K2 D1 M1 S cn cb cs y0 y1 y2 P i kd m a b _ _ x l w h2 h3 hi hs ho.kd ho.a ho.b (ho.bytes w h11) ho.own ho.l rfl rfl).mono ?_
  rintro e w' ⟨r, rfl, hk, hr⟩
  have hkn : Keeps (fun _ => False) w0 w' := keeps_new h11 hk (by
    intro b hF
    rcases hF with hF | hF
    · exact (h2.is.lt hF).1
    · exact Foot.lo h3.is h3.own hF)
  refine ⟨r, rfl, hkn, ?_⟩
  rcases hr with ⟨rfl, hC, ⟨S', t1, t2, t3, t4, t5⟩, bn', bb', bs', v0, v1, v2, b1, b2⟩ | ⟨hr, hC, hat, x3, x4, hD⟩
  · refine .inl ⟨rfl, fun c => by have := hC c; rw [h7] at this; rw [← h5]; exact this, T.ops, S', T, bn, bb, bs, u0, u1, u2, bn', bb', bs', v0, v1, v2, h1.keeps hk ?_, b1, t1, h4.keeps hk ?_, t4.trans h5, h6, ?_, rfl, ?_, ?_, hkn⟩
    · intro b hb hF
      rcases hF with hF | hF
      · exact h9 b hb hF
      · exact h1.is.apart_disk h3.is h3.own b hb hF
    · intro b hb hF
      rcases hF with hF | hF
      · exact h2.is.apart_disk h4.is h4.own b hF hb
      · exact h10 b hF hb
    · by_cases c : isCounted (absN kd % 6) (five (a.size % 5)) P
      · rw [t2 c, h8 c, h7]
      · rw [t3 c, h8' c, h7]
    · intro b hb hF
      rcases b2 b hF with h | h
      · exact h9 b hb h
      · have := (h1.is.lt hb).2; omega
    · intro b hb hF
      rcases t5 b hb with h | h
      · exact h10 b h hF
      · have := Foot.lt h4.is h4.own hF; omega
  · refine .inr ⟨hr, hC, by rw [← h5, hat, h7], x3, x4, ?_⟩
    rw [← h7]; exact hD

end Go.Proofs.Ytigbodokmkpohaa
