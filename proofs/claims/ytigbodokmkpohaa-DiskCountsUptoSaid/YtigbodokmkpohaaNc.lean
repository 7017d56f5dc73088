/- A call, noted: what comes of it; sync. -/
import Derived.Test.YtigbodokmkpohaaNb
namespace Go.Proofs.Ytigbodokmkpohaa
open Go.RowKit

def absN (n : Int) : Nat := if 0 ≤ n then n.toNat else (-(n + 1)).toNat

theorem abs_is (n : Int) (w : World) (h1 : -9223372036854775808 ≤ n) (h2 : n ≤ 9223372036854775807) :
    Calls Try.prog 9 #[.int .i64 n] w fun e w' => e = .returned (.int .i64 (absN n : Nat)) ∧ w = w' := by
  unfold absN
  by_cases h : 0 ≤ n
  · refine (abs_nonneg n w h h2).mono ?_
    rintro e w' ⟨rfl, rfl⟩
    exact ⟨by rw [if_pos h]; congr 2; omega, rfl⟩
  · refine (abs_neg n w (by omega) h1).mono ?_
    rintro e w' ⟨rfl, rfl⟩
    exact ⟨by rw [if_neg h]; congr 2; omega, rfl⟩

/-- What a noted call comes to: it goes on (counted: C), or the power goes off. -/
def NRes (w : World) (base K D M : Nat) (S : DS) (v0 v1 v2 : Value) (P' : ByteArray → Prop) (C : Prop) (k : Nat) (r : Bool) (w' : World) : Prop :=
  Keeps (fun b => BFoot K v0 v1 v2 b ∨ Foot D M S b) w w' ∧
    ((r = true ∧ (C → (S.ops : Int) ≠ S.cutAt) ∧
        (∃ S', DGood w' base D M S' P' (k + 1) ∧ (C → S'.ops = S.ops + 1) ∧ (¬ C → S'.ops = S.ops) ∧ S'.cutAt = S.cutAt ∧ ∀ b, Foot D M S' b → Foot D M S b ∨ w.heap.size ≤ b) ∧
        ∃ bn bb bs u0 u1 u2, BGood w' base K bn bb bs u0 u1 u2 P' (k + 1) ∧ ∀ b, BFoot K u0 u1 u2 b → BFoot K v0 v1 v2 b ∨ w.heap.size ≤ b) ∨
     (r = false ∧ C ∧ S.cutAt = S.ops ∧ ∃ x3 x4, w'.heap[D]? = some (.cells #[.map (some M), .bool true, .int .i64 (S.ops + 1), x3, x4] 49 (0, 0))))

theorem DGood.more {w : World} {base D M : Nat} {S : DS} {P : ByteArray → Prop} {k : Nat} (h : DGood w base D M S P k) : DGood w base D M S P (k + 1) :=
  ⟨h.is, h.own, h.off, Nat.le_succ_of_le h.ops, Nat.le_succ_of_le h.n, h.part, h.there, fun s f hf => Nat.le_trans (h.len s f hf) (Nat.mul_le_mul_right _ (Nat.le_succ k))⟩

theorem BGood.more {w : World} {base K : Nat} {bn bb : List ByteArray} {bs : List Int} {v0 v1 v2 : Value} {P : ByteArray → Prop} {k : Nat} (h : BGood w base K bn bb bs v0 v1 v2 P k) : BGood w base K bn bb bs v0 v1 v2 P (k + 1) :=
  ⟨h.is, h.nodup, h.mem, Nat.le_succ_of_le h.len, fun b hb => Nat.le_trans (h.size b hb) (Nat.mul_le_mul_right _ (Nat.le_succ k))⟩

theorem DGood.kept {w w' : World} {base D M : Nat} {S : DS} {P : ByteArray → Prop} {k : Nat} (h : DGood w base D M S P k) (hk : ∀ b, Foot D M S b → w'.heap[b]? = w.heap[b]?) : DGood w' base D M S P k :=
  ⟨h.is.kept hk, h.own.kept hk, h.off, h.ops, h.n, h.part, h.there, h.len⟩

theorem BGood.kept {w w' : World} {base K : Nat} {bn bb : List ByteArray} {bs : List Int} {v0 v1 v2 : Value} {P : ByteArray → Prop} {k : Nat} (h : BGood w base K bn bb bs v0 v1 v2 P k) (hk : ∀ b, BFoot K v0 v1 v2 b → w'.heap[b]? = w.heap[b]?) : BGood w' base K bn bb bs v0 v1 v2 P k :=
  ⟨h.is.kept hk, h.nodup, h.mem, h.len, h.size⟩

theorem BGood.keeps {w w' : World} {base K : Nat} {bn bb : List ByteArray} {bs : List Int} {v0 v1 v2 : Value} {P : ByteArray → Prop} {k : Nat} {F : Nat → Prop} (h : BGood w base K bn bb bs v0 v1 v2 P k) (hk : Keeps F w w') (hf : ∀ b, BFoot K v0 v1 v2 b → ¬ F b) : BGood w' base K bn bb bs v0 v1 v2 P k :=
  h.kept fun b hb => hk.block b (h.is.lt hb).2 (hf b hb)

theorem DGood.keeps {w w' : World} {base D M : Nat} {S : DS} {P : ByteArray → Prop} {k : Nat} {F : Nat → Prop} (h : DGood w base D M S P k) (hk : Keeps F w w') (hf : ∀ b, Foot D M S b → ¬ F b) : DGood w' base D M S P k :=
  h.kept fun b hb => hk.block b (Foot.lt h.is h.own hb) (hf b hb)

theorem Book.apart_disk {w : World} {base base' K D M : Nat} {S : DS} {bn bb : List ByteArray} {bs : List Int} {v0 v1 v2 : Value} (h : Book w base K bn bb bs v0 v1 v2) (hd : DiskIs w base' D M S) (ho : Owned w base' S) : ∀ b, BFoot K v0 v1 v2 b → ¬ Foot D M S b :=
  fun _ hb => h.not_foot hd ho hb

theorem at_there {w : World} {base K : Nat} {bn bb : List ByteArray} {bs : List Int} {v0 v1 v2 : Value} {P : ByteArray → Prop} {k : Nat} (h : BGood w base K bn bb bs v0 v1 v2 P k) (hk : k ≤ 100) (s : ByteArray) (hp : P s) :
    Calls Try.prog 25 #[.pointer (some ⟨K, 0, none⟩), .string s] w fun e w' => ∃ i : Nat, e = .returned (.int .i64 i) ∧ (i < bn.length ∧ bn[i]? = some s) ∧ w = w' := by
  refine (at_is base K bn bb bs v0 v1 v2 s w h.is (Nat.le_trans h.len hk)).mono ?_
  rintro e w' ⟨i, he, ⟨_, hn⟩ | ⟨j, rfl, hj⟩, hw⟩
  · exact absurd ((h.mem s).2 hp) hn
  · exact ⟨j, he, ⟨(List.getElem?_eq_some_iff.1 hj).1, hj⟩, hw⟩

theorem at_none {w : World} {base K : Nat} {bn bb : List ByteArray} {bs : List Int} {v0 v1 v2 : Value} {P : ByteArray → Prop} {k : Nat} (h : BGood w base K bn bb bs v0 v1 v2 P k) (hk : k ≤ 100) (s : ByteArray) (hp : ¬ P s) :
    Calls Try.prog 25 #[.pointer (some ⟨K, 0, none⟩), .string s] w fun e w' => e = .returned (.int .i64 (-1)) ∧ w = w' := by
  refine (at_is base K bn bb bs v0 v1 v2 s w h.is (Nat.le_trans h.len hk)).mono ?_
  rintro e w' ⟨i, he, ⟨rfl, _⟩ | ⟨j, rfl, hj⟩, hw⟩
  · exact ⟨he, hw⟩
  · exact absurd ((h.mem s).1 (List.mem_of_getElem? hj)) hp

/-- The call's own value. -/
def opV (kd : Int) (a b : ByteArray) (x : Value) (n : Int) : Value := .agg #[.int .i64 kd, .string a, .string b, x, .int .i64 n]

theorem note_none_end {w w1 w' : World} {base K D M : Nat} {S : DS} {bn bb : List ByteArray} {bs : List Int} {v0 v1 v2 : Value} {P : ByteArray → Prop} {C : Prop} {k : Nat} (hb : BGood w base K bn bb bs v0 v1 v2 P k) (hd : DGood w base D M S P k) (hk : Keeps (fun _ => False) w w') (hC : ¬ C) :
    NRes w base K D M S v0 v1 v2 P C k true w' :=
  ⟨hk.mono fun _ _ h => h.elim, .inl ⟨rfl, fun h => absurd h hC, ⟨S, (hd.keeps hk fun _ _ h => h).more, fun h => absurd h hC, fun _ => rfl, rfl, fun _ h => .inl h⟩, ⟨bn, bb, bs, v0, v1, v2, (hb.keeps hk fun _ _ h => h).more, fun _ h => .inl h⟩⟩⟩

set_option maxHeartbeats 800000 in
theorem note_sync_none (base K D M : Nat) (S : DS) (bn bb : List ByteArray) (bs : List Int) (v0 v1 v2 : Value) (P : ByteArray → Prop) (k : Nat) (kd n : Int) (a b : ByteArray) (x : Value) (w : World) (hb : BGood w base K bn bb bs v0 v1 v2 P k) (hd : DGood w base D M S P k) (hk : k ≤ 90)
    (hkd : -9223372036854775808 ≤ kd ∧ kd ≤ 9223372036854775807) (ha : a.size ≤ 9223372036854775807) (h3 : absN kd % 6 = 3) (hp : ¬ P (five (a.size % 5))) :
    Calls Try.prog 15 #[.pointer (some ⟨K, 0, none⟩), .pointer (some ⟨D, 0, none⟩), opV kd a b x n] w fun e w' => ∃ r, e = .returned (.bool r) ∧ NRes w base K D M S v0 v1 v2 P (P (five (a.size % 5))) k r w' := by
  unfold opV
  have hO : (w.alloc (.cells #[.int .i64 kd, .string a, .string b, x, .int .i64 n] 44)).heap[w.heap.size]? = some (.cells #[.int .i64 kd, .string a, .string b, x, .int .i64 n] 44 (0, 0)) := (MapKept.heap_alloc _ _).1
  have hK0 : Keeps (fun _ => False) w (w.alloc (.cells #[.int .i64 kd, .string a, .string b, x, .int .i64 n] 44)) := Keeps.alloc _ _ _
  have key : ∀ W, Keeps (fun _ => False) (w.alloc (.cells #[.int .i64 kd, .string a, .string b, x, .int .i64 n] 44)) W → W.heap[w.heap.size]? = some (.cells #[.int .i64 kd, .string a, .string b, x, .int .i64 n] 44 (0, 0)) ∧ Keeps (fun _ => False) w W := fun W hW =>
    ⟨(hW.block _ (by simp) (fun h => h)).trans hO, hK0.trans hW⟩
  have HKEY := Lib.hid key
  have HB := Lib.hid hb
  have HD := Lib.hid hd
  have HP := Lib.hid hp
  have hm : ((absN kd : Nat) : Int) % 6 = 3 := by omega
  obtain ⟨m, hmm⟩ : ∃ m, m = absN kd := ⟨_, rfl⟩
  rw [← hmm] at hm
  have HM := Lib.hid hmm
  clear key hb hd hp hO hK0 h3 hmm
  go_enter Try.func15, Try.ntmps15
  go_wp2_with (first
    | (go_at_call 24; refine (name_is a.size _ ha).mono ?_; rintro e w1 ⟨rfl, hk1⟩; obtain ⟨hO, hK⟩ := HKEY.out _ hk1; have HK := Lib.hid hK; have o0 : w1.cell? ⟨w.heap.size, 0, none⟩ = some (.int .i64 kd) := (by simp [World.cell?, hO]); clear hk1 hO hK)
    | (go_at_call 25; refine (at_none (HB.out.keeps HK.out fun _ _ h => h) (by omega) _ HP.out).mono ?_; rintro e w' ⟨rfl, rfl⟩)
    | (go_at_call 9; refine (abs_is kd _ hkd.1 hkd.2).mono ?_; rintro e w' ⟨rfl, rfl⟩; rw [← HM.out])
    | (go_at_call 16; refine (sync_none base D M S _ _ (HD.out.keeps HK.out fun _ _ h => h).is (five_named _) (HD.out.none HP.out) HD.out.off).mono ?_; rintro e w2 ⟨rfl, hk2⟩; have HK2 := Lib.hid hk2; clear hk2))
  go_ret
  exact ⟨true, rfl, note_none_end (w1 := w) HB.out HD.out (HK.out.trans HK2.out) HP.out⟩

end Go.Proofs.Ytigbodokmkpohaa
