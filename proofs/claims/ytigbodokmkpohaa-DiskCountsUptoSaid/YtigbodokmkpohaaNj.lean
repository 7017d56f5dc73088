/- A call, noted: all kinds. -/
import Derived.Test.YtigbodokmkpohaaNi
namespace Go.Proofs.Ytigbodokmkpohaa
open Go.RowKit

/-- Which files are there behind a call. -/
def nextP (c : Nat) (s t : ByteArray) (P : ByteArray → Prop) : ByteArray → Prop := fun x =>
  (c ≤ 2 ∧ (P x ∨ x = s)) ∨ (c = 3 ∧ P x) ∨ (c = 4 ∧ P x ∧ x ≠ s) ∨ (5 ≤ c ∧ ((P s ∧ ((P x ∧ x ≠ s) ∨ x = t)) ∨ (¬ P s ∧ P x)))

/-- Is a call counted? -/
def isCounted (c : Nat) (s : ByteArray) (P : ByteArray → Prop) : Prop := c ≤ 2 ∨ P s

theorem NRes.congr {w : World} {base K D M : Nat} {S : DS} {v0 v1 v2 : Value} {P1 P2 : ByteArray → Prop} {C1 C2 : Prop} {k : Nat} {r : Bool} {w' : World} (h : NRes w base K D M S v0 v1 v2 P1 C1 k r w') (hP : ∀ x, P1 x ↔ P2 x) (hC : C1 ↔ C2) : NRes w base K D M S v0 v1 v2 P2 C2 k r w' := by
  have e1 : P1 = P2 := funext fun x => propext (hP x)
  have e2 : C1 = C2 := propext hC
  subst e1; subst e2; exact h

theorem note_is (base K D M : Nat) (S : DS) (bn bb : List ByteArray) (bs : List Int) (v0 v1 v2 : Value) (P : ByteArray → Prop) (k : Nat) (kd n : Int) (a b s t : ByteArray) (x : Value) (l : List UInt8) (w : World) (hb : BGood w base K bn bb bs v0 v1 v2 P k) (hd : DGood w base D M S P k) (hk : k ≤ 90) (hbase : base ≤ w.heap.size)
    (hkd : -9223372036854775808 ≤ kd ∧ kd ≤ 9223372036854775807) (ha : a.size ≤ 9223372036854775807) (hbs : b.size ≤ 9223372036854775807) (hx : Bytes w x l) (hxl : l ≠ [] → ∀ k, x.ownBlock = some k → k < base) (hl : l.length ≤ 1048576) (hs : s = five (a.size % 5)) (ht : t = five (b.size % 5)) :
    Calls Try.prog 15 #[.pointer (some ⟨K, 0, none⟩), .pointer (some ⟨D, 0, none⟩), opV kd a b x n] w fun e w' => ∃ r, e = .returned (.bool r) ∧ NRes w base K D M S v0 v1 v2 (nextP (absN kd % 6) s t P) (isCounted (absN kd % 6) s P) k r w' := by
  have h6 : absN kd % 6 < 6 := Nat.mod_lt _ (by decide)
  have hcase : absN kd % 6 = 0 ∨ absN kd % 6 = 1 ∨ absN kd % 6 = 2 ∨ absN kd % 6 = 3 ∨ absN kd % 6 = 4 ∨ absN kd % 6 = 5 := by omega
  by_cases hp : P s
  · rcases hcase with h | h | h | h | h | h
    · refine (note_old0 base K D M S bn bb bs v0 v1 v2 P k kd n a b s x l w hb hd hk hbase hkd ha hx hxl hl h hs hp).mono fun e w' hr => ?_
      obtain ⟨r, he, hr⟩ := hr
      exact ⟨r, he, hr.congr (fun x => by simp [nextP, h]) (by simp [isCounted, h])⟩
    · refine (note_old1 base K D M S bn bb bs v0 v1 v2 P k kd n a b s x l w hb hd hk hbase hkd ha hx hxl hl h hs hp).mono fun e w' hr => ?_
      obtain ⟨r, he, hr⟩ := hr
      exact ⟨r, he, hr.congr (fun x => by simp [nextP, h]) (by simp [isCounted, h])⟩
    · refine (note_old2 base K D M S bn bb bs v0 v1 v2 P k kd n a b s x l w hb hd hk hbase hkd ha hx hxl hl h hs hp).mono fun e w' hr => ?_
      obtain ⟨r, he, hr⟩ := hr
      exact ⟨r, he, hr.congr (fun x => by simp [nextP, h]) (by simp [isCounted, h])⟩
    · refine (note_sync_some base K D M S bn bb bs v0 v1 v2 P k kd n a b x w hb hd hk hkd ha h (hs ▸ hp)).mono fun e w' hr => ?_
      obtain ⟨r, he, hr⟩ := hr
      exact ⟨r, he, hr.congr (fun x => by simp [nextP, h]) (by simp [isCounted, h, hs])⟩
    · refine (note_rem_some base K D M S bn bb bs v0 v1 v2 P k kd n a b x w hb hd hk hbase hkd ha h (hs ▸ hp)).mono fun e w' hr => ?_
      obtain ⟨r, he, hr⟩ := hr
      exact ⟨r, he, hr.congr (fun x => by simp [nextP, h, hs]) (by simp [isCounted, h, hs])⟩
    · have fin : ∀ (e : Ending) (w' : World), (∃ r, e = .returned (.bool r) ∧ NRes w base K D M S v0 v1 v2 (fun x => (P x ∧ x ≠ s) ∨ x = t) (P s) k r w') → ∃ r, e = .returned (.bool r) ∧ NRes w base K D M S v0 v1 v2 (nextP (absN kd % 6) s t P) (isCounted (absN kd % 6) s P) k r w' := fun e w' ⟨r, he, hr⟩ =>
        ⟨r, he, hr.congr (fun x => by simp [nextP, h, hp]) (by simp [isCounted, h])⟩
      by_cases hst : s = t
      · exact (note_ren_same base K D M S bn bb bs v0 v1 v2 P k kd n a b s t x w hb hd hk hbase hkd ha hbs h hs ht hp hst).mono fin
      · by_cases hpt : P t
        · exact (note_ren_onto base K D M S bn bb bs v0 v1 v2 P k kd n a b s t x w hb hd hk hbase hkd ha hbs h hs ht hp hst hpt).mono fin
        · exact (note_ren_free base K D M S bn bb bs v0 v1 v2 P k kd n a b s t x w hb hd hk hbase hkd ha hbs h hs ht hp hst hpt).mono fin
  · rcases hcase with h | h | h | h | h | h
    · refine (note_new0 base K D M S bn bb bs v0 v1 v2 P k kd n a b s x l w hb hd hk hbase hkd ha hx hxl hl h hs hp).mono fun e w' hr => ?_
      obtain ⟨r, he, hr⟩ := hr
      exact ⟨r, he, hr.congr (fun x => by simp [nextP, h]) (by simp [isCounted, h])⟩
    · refine (note_new1 base K D M S bn bb bs v0 v1 v2 P k kd n a b s x l w hb hd hk hbase hkd ha hx hxl hl h hs hp).mono fun e w' hr => ?_
      obtain ⟨r, he, hr⟩ := hr
      exact ⟨r, he, hr.congr (fun x => by simp [nextP, h]) (by simp [isCounted, h])⟩
    · refine (note_new2 base K D M S bn bb bs v0 v1 v2 P k kd n a b s x l w hb hd hk hbase hkd ha hx hxl hl h hs hp).mono fun e w' hr => ?_
      obtain ⟨r, he, hr⟩ := hr
      exact ⟨r, he, hr.congr (fun x => by simp [nextP, h]) (by simp [isCounted, h])⟩
    · refine (note_sync_none base K D M S bn bb bs v0 v1 v2 P k kd n a b x w hb hd hk hkd ha h (hs ▸ hp)).mono fun e w' hr => ?_
      obtain ⟨r, he, hr⟩ := hr
      exact ⟨r, he, hr.congr (fun x => by simp [nextP, h]) (by simp [isCounted, h, hs])⟩
    · refine (note_rem_none base K D M S bn bb bs v0 v1 v2 P k kd n a b x w hb hd hk hkd ha h (hs ▸ hp)).mono fun e w' hr => ?_
      obtain ⟨r, he, hr⟩ := hr
      refine ⟨r, he, hr.congr (fun x => ?_) (by simp [isCounted, h, hs])⟩
      have : P x → x ≠ s := fun h1 e => hp (e ▸ h1)
      show P x ↔ nextP (absN kd % 6) s t P x
      rw [h]; unfold nextP
      constructor
      · intro h1; exact .inr (.inr (.inl ⟨rfl, h1, this h1⟩))
      · rintro (⟨h0, _⟩ | ⟨h0, _⟩ | ⟨_, h1, _⟩ | ⟨h0, _⟩)
        · omega
        · omega
        · exact h1
        · omega
    · refine (note_ren_none base K D M S bn bb bs v0 v1 v2 P k kd n a b s t x w hb hd hk hbase hkd ha hbs h hs ht hp).mono fun e w' hr => ?_
      obtain ⟨r, he, hr⟩ := hr
      exact ⟨r, he, hr.congr (fun x => by simp [nextP, h, hp]) (by simp [isCounted, h])⟩

end Go.Proofs.Ytigbodokmkpohaa
