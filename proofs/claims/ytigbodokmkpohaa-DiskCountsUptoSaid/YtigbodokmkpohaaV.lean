/- The book's memory; name, at. -/
import Derived.Test.YtigbodokmkpohaaU
namespace Go.Proofs.Ytigbodokmkpohaa
open Go.RowKit

/-- The five names. -/
def five (n : Nat) : ByteArray := match n with | 0 => ⟨#[97]⟩ | 1 => ⟨#[98]⟩ | 2 => ⟨#[97, 98]⟩ | 3 => ⟨#[97, 47, 49]⟩ | _ => ⟨#[122]⟩

theorem five_named (n : Nat) : Named (five n) := by
  unfold five
  split
  · exact named_mk [97] (by decide) (by decide) (by decide)
  · exact named_mk [98] (by decide) (by decide) (by decide)
  · exact named_mk [97, 98] (by decide) (by decide) (by decide)
  · exact named_mk [97, 47, 49] (by decide) (by decide) (by decide)
  · exact named_mk [122] (by decide) (by decide) (by decide)

set_option maxHeartbeats 400000 in
theorem name_is (n : Nat) (w : World) (hn : n ≤ 9223372036854775807) : Calls Try.prog 24 #[.int .i64 n] w fun e w' => e = .returned (.string (five (n % 5))) ∧ Keeps (fun _ => False) w w' := by
  have hc : ∀ m, m < 5 → (w.alloc (.cells #[.string ⟨#[97]⟩, .string ⟨#[98]⟩, .string ⟨#[97, 98]⟩, .string ⟨#[97, 47, 49]⟩, .string ⟨#[122]⟩] 9)).cell? ⟨w.heap.size, m, none⟩ = some (.string (five m)) := by
    intro m hm
    have h0 := (MapKept.heap_alloc w (.cells #[.string ⟨#[97]⟩, .string ⟨#[98]⟩, .string ⟨#[97, 98]⟩, .string ⟨#[97, 47, 49]⟩, .string ⟨#[122]⟩] 9)).1
    simp only [World.cell?, h0]
    match m, hm with
    | 0, _ => rfl
    | 1, _ => rfl
    | 2, _ => rfl
    | 3, _ => rfl
    | 4, _ => rfl
  obtain ⟨m, hm⟩ : ∃ m, m = n % 5 := ⟨_, rfl⟩
  have hm5 : m < 5 := by omega
  have cm := hc m hm5
  have hmi : (n : Int) % 5 = (m : Int) := by omega
  have HM := Lib.hid hm
  clear hc hm
  go_enter Try.func24, Try.ntmps24
  go_wp2_with (go_at_call 9; refine (abs_nonneg n _ (by omega) (by omega)).mono ?_; rintro e w' ⟨rfl, rfl⟩)
  go_ret
  exact ⟨by rw [← HM.out]; rfl, Keeps.alloc _ _ _⟩

/-- The book: names, bytes, how many of them are synced. -/
structure Book (w : World) (base K : Nat) (bn bb : List ByteArray) (bs : List Int) (v0 v1 v2 : Value) : Prop where
  cells : w.heap[K]? = some (.cells #[v0, v1, v2] 39 (0, 0))
  names : WRow w base 9 v0 (bn.map .string)
  bytes : WRow w base 9 v1 (bb.map .string)
  synced : WRow w base 3 v2 (bs.map (.int .i64))
  lo : base ≤ K
  len : bb.length = bn.length ∧ bs.length = bn.length
  apart : ∀ k, v0.ownBlock = some k → v1.ownBlock ≠ some k

def BFoot (K : Nat) (v0 v1 v2 : Value) (b : Nat) : Prop := b = K ∨ v0.ownBlock = some b ∨ v1.ownBlock = some b ∨ v2.ownBlock = some b

theorem Book.kept {w w' : World} {base K : Nat} {bn bb : List ByteArray} {bs : List Int} {v0 v1 v2 : Value} (h : Book w base K bn bb bs v0 v1 v2) (hk : ∀ b, BFoot K v0 v1 v2 b → w'.heap[b]? = w.heap[b]?) : Book w' base K bn bb bs v0 v1 v2 :=
  ⟨(hk K (.inl rfl)).trans h.cells, h.names.same (fun k hkk => hk k (.inr (.inl hkk))), h.bytes.same (fun k hkk => hk k (.inr (.inr (.inl hkk)))), h.synced.same (fun k hkk => hk k (.inr (.inr (.inr hkk)))), h.lo, h.len, h.apart⟩

theorem Book.lt {w : World} {base K : Nat} {bn bb : List ByteArray} {bs : List Int} {v0 v1 v2 : Value} (h : Book w base K bn bb bs v0 v1 v2) {b : Nat} (hb : BFoot K v0 v1 v2 b) : base ≤ b ∧ b < w.heap.size := by
  rcases hb with rfl | hb | hb | hb
  · exact ⟨h.lo, (Array.getElem?_eq_some_iff.1 h.cells).1⟩
  · exact ⟨(h.names.lt hb).1, (h.names.lt hb).2.1⟩
  · exact ⟨(h.bytes.lt hb).1, (h.bytes.lt hb).2.1⟩
  · exact ⟨(h.synced.lt hb).1, (h.synced.lt hb).2.1⟩

/-- What type's cells a block holds. -/
def elemOf : Option Obj → Nat
  | some (.cells _ e _) => e
  | _ => 0

/-- A block of the book is none of a disk's: by what lies in it. -/
theorem Book.not_foot {w : World} {base base' K D M : Nat} {S : DS} {bn bb : List ByteArray} {bs : List Int} {v0 v1 v2 : Value} (h : Book w base K bn bb bs v0 v1 v2) (hd : DiskIs w base' D M S) (ho : Owned w base' S) {b : Nat} (hb : BFoot K v0 v1 v2 b) : ¬ Foot D M S b := by
  have key : ∃ cur e, w.heap[b]? = some (.cells cur e (0, 0)) ∧ (e = 39 ∨ e = 9 ∨ e = 3) := by
    rcases hb with rfl | hb | hb | hb
    · exact ⟨_, 39, h.cells, .inl rfl⟩
    · obtain ⟨cur, hc⟩ := (h.names.lt hb).2.2; exact ⟨cur, 9, hc, .inr (.inl rfl)⟩
    · obtain ⟨cur, hc⟩ := (h.bytes.lt hb).2.2; exact ⟨cur, 9, hc, .inr (.inl rfl)⟩
    · obtain ⟨cur, hc⟩ := (h.synced.lt hb).2.2; exact ⟨cur, 3, hc, .inr (.inr rfl)⟩
  obtain ⟨cur, e, hc, he⟩ := key
  rintro (rfl | rfl | ⟨s, f, hf, rfl | hk⟩)
  · have h2 := congrArg elemOf (hd.disk.symm.trans hc); simp only [elemOf] at h2; rcases he with rfl | rfl | rfl <;> cases h2
  · obtain ⟨es, clock, hm, _⟩ := hd.map
    rw [hm] at hc; cases hc
  · have h2 := congrArg elemOf ((hd.file s f hf).symm.trans hc); simp only [elemOf] at h2; rcases he with rfl | rfl | rfl <;> cases h2
  · obtain ⟨cur', hc'⟩ := ownsRow_cells (ho.row s f hf) hk
    have h2 := congrArg elemOf (hc'.symm.trans hc); simp only [elemOf] at h2; rcases he with rfl | rfl | rfl <;> cases h2

/-- i is where a name stands in a list; -1: nowhere. -/
def At (l : List ByteArray) (s : ByteArray) (i : Int) : Prop := (i = -1 ∧ s ∉ l) ∨ ∃ k : Nat, i = k ∧ l[k]? = some s

theorem str_eq (a b : ByteArray) : (a == b) = decide (a = b) := by
  by_cases h : a = b
  · rw [(MapKept.bytes_beq a b).2 h]; simp [h]
  · rw [decide_eq_false h]
    cases hb : (a == b) with
    | false => rfl
    | true => exact absurd ((MapKept.bytes_beq a b).1 hb) h

set_option maxHeartbeats 400000 in
theorem at_is (base K : Nat) (bn bb : List ByteArray) (bs : List Int) (v0 v1 v2 : Value) (s : ByteArray) (w : World) (h : Book w base K bn bb bs v0 v1 v2) (hn : bn.length ≤ 100) :
    Calls Try.prog 25 #[.pointer (some ⟨K, 0, none⟩), .string s] w fun e w' => ∃ i, e = .returned (.int .i64 i) ∧ At bn s i ∧ w = w' := by
  obtain ⟨a0, c0, hv⟩ := h.names.slice
  have hnm := h.names
  rw [hv] at hnm
  have hle := hnm.len
  simp only [List.length_map] at hv hle hnm
  have hc := h.cells
  have cK : w.cell? ⟨K, 0, none⟩ = some (.slice a0 bn.length c0) := by simp [World.cell?, hc, hv]
  have HN := Lib.hid hnm
  clear hv hnm hc h hle
  go_enter Try.func25, Try.ntmps25
  go_wp2_with fail
  go_loop [5] (fun i => ∃ k : Nat, k ≤ bn.length ∧ i = .int .i64 k ∧ ∀ j, j < k → bn[j]? ≠ some s) (fun i => bn.length - (intOf i).toNat)
  case atStart => exact ⟨0, by omega, rfl, fun j hj => by omega⟩
  case round =>
    obtain ⟨k, hk, rfl, hno⟩ := hrel
    have HNO := Lib.hid hno
    clear hno
    by_cases hlt : k < bn.length
    · obtain ⟨g, rfl⟩ := HN.out.addr (by simpa using (show 0 < bn.length by omega))
      have hcell := (HN.out.cellAt (j := k) (by simpa using hlt)).1
      simp only [List.getElem_map] at hcell
      obtain ⟨t, ht⟩ : ∃ t, t = bn[k] := ⟨_, rfl⟩
      rw [← ht] at hcell
      have HT := Lib.hid ht
      clear ht
      by_cases he : t = s
      · have hE : (t.toList == s.toList) = true := by rw [← beq_toListBytes, str_eq]; simpa using he
        have HE := Lib.hid he
        clear he
        go_wp2_with fail
        go_ret
        exact ⟨k, rfl, .inr ⟨k, rfl, by rw [List.getElem?_eq_getElem hlt, ← HT.out, HE.out]⟩, rfl⟩
      · have hE : (t.toList == s.toList) = false := by rw [← beq_toListBytes, str_eq]; simpa using he
        have HE := Lib.hid he
        clear he
        go_wp2_with fail
        go_round
        case rel =>
          refine ⟨k + 1, by omega, by go_num, fun j hj => ?_⟩
          by_cases hjk : j = k
          · subst hjk
            rw [List.getElem?_eq_getElem hlt, ← HT.out]
            exact fun e => HE.out (Option.some.inj e)
          · exact HNO.out j (by omega)
        case measure => simp [intOf]; omega
    · obtain rfl : k = bn.length := by omega
      go_wp2_with fail
      go_ret
      refine ⟨-1, rfl, .inl ⟨rfl, fun hm => ?_⟩, rfl⟩
      obtain ⟨j, hj, e⟩ := List.mem_iff_getElem.1 hm
      exact HNO.out j hj (by rw [List.getElem?_eq_getElem hj, e])

end Go.Proofs.Ytigbodokmkpohaa
