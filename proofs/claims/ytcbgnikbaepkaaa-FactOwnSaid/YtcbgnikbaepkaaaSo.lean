/- Facts written over. -/
import Derived.Test.YtcbgnikbaepkaaaX
namespace Go.Proofs.Ytcbgnikbaepkaaa
open Go.Shelf Go.RowKit Go.Lib Go.Sort Go.Proofs

/-- The blocks of F turn: nothing else. -/
structure MovedF (F : Nat → Prop) (w w' : World) : Prop where
  os : w'.os = w.os
  tape : w'.tape = w.tape
  output : w'.output = w.output
  size : w.heap.size ≤ w'.heap.size
  block : ∀ k, ¬ F k → w'.heap[k]? = w.heap[k]?

theorem MovedF.refl (F : Nat → Prop) (w : World) : MovedF F w w := ⟨rfl, rfl, rfl, Nat.le_refl _, fun _ _ => rfl⟩
theorem MovedF.setCell {F : Nat → Prop} {w w' : World} (h : MovedF F w w') {A : Addr} (hA : F A.block) (u : Value) : MovedF F w (w'.setCell A u) :=
  ⟨h.os, h.tape, h.output, by simpa [World.setCell] using h.size, fun k hk => (Below.heap_setCell _ _ _ _ (fun e => hk (by rw [e]; exact hA))).trans (h.block k hk)⟩

/-- A slice of n cells that may be written. -/
def Open1 (w : World) (a : Option Addr) (n : Nat) : Prop := ∀ j, j < n → ∃ A u, a = some A ∧ w.cell? (A.add j) = some u ∧ w.frozen? (A.add j) = false

theorem Open1.setCell {w : World} {a : Option Addr} {n : Nat} (h : Open1 w a n) (p : Addr) (u : Value) : Open1 (w.setCell p u) a n := fun j hj => by
  obtain ⟨A, v, ha, hc, hf⟩ := h j hj
  obtain ⟨v', hv'⟩ := cell?_setCell_some (w := w) (p := p) (x := u) (q := A.add j) (v := v) hc
  exact ⟨A, v', ha, hv', by rw [World.frozen?_setCell]; exact hf⟩

theorem open1_of {w : World} {a : Option Addr} {n c : Nat} {xs : List Value} (h : Cells w (.slice a n c) xs) (hn : n = xs.length) (hs : SoftV w (.slice a n c)) : Open1 w a n := fun j hj => by
  rcases h with ⟨he, hx⟩ | ⟨A, c', he, hc⟩
  · subst hx; simp at hn; omega
  · injection he with e1 e2 e3
    subst e1
    have hj2 : j < xs.length := by omega
    have hcell := hc j xs[j] (List.getElem?_eq_getElem hj2)
    obtain ⟨cur, e, hb⟩ := hs A.block rfl
    refine ⟨A, _, rfl, hcell, ?_⟩
    have e4 : (A.add j).block = A.block := by unfold Addr.add; split <;> rfl
    simp [World.frozen?, e4, hb]

/-- The rows of block g, of which times and numbers may be any. -/
def SpAt (w : World) (g : Nat) (l : List Ro) : Prop := ∀ j x, l[j]? = some x →
  (w.cell? ⟨g, j * 4 + 1, none⟩ = some (.slice x.da x.dn x.dc) ∧ w.cell? ⟨g, j * 4 + 2, none⟩ = some (.slice x.ma x.mn x.mc)) ∧ (∃ u, w.cell? ⟨g, j * 4, none⟩ = some u) ∧ (∃ u, w.cell? ⟨g, j * 4 + 3, none⟩ = some u) ∧
  (w.frozen? ⟨g, j * 4, none⟩ = false ∧ w.frozen? ⟨g, j * 4 + 3, none⟩ = false) ∧ Open1 w x.da x.dn ∧ Open1 w x.ma x.mn

theorem SpAt.set {w : World} {g : Nat} {l : List Ro} (h : SpAt w g l) (p : Addr) (u : Value) (hp : p.block ≠ g ∨ ∃ i, p = ⟨g, i * 4, none⟩ ∨ p = ⟨g, i * 4 + 3, none⟩) : SpAt (w.setCell p u) g l := by
  intro j x hx
  obtain ⟨⟨h1, h2⟩, ⟨u0, h3⟩, ⟨u3, h4⟩, ⟨h5, h6⟩, h7, h8⟩ := h j x hx
  have key : ∀ o v, w.cell? ⟨g, o, none⟩ = some v → (∀ i, o ≠ i * 4 ∧ o ≠ i * 4 + 3) → (w.setCell p u).cell? ⟨g, o, none⟩ = some v := by
    intro o v hv ho
    rcases hp with hp | ⟨i, rfl | rfl⟩
    · rw [← hv]; exact World.cell?_of_block (Below.heap_setCell _ _ _ _ (fun e => hp e.symm))
    · rw [← hv]; exact World.cell?_setCells_out g [u] (i * 4) w ⟨g, o, none⟩ (fun _ _ => by have := (ho i).1; simp; omega)
    · rw [← hv]; exact World.cell?_setCells_out g [u] (i * 4 + 3) w ⟨g, o, none⟩ (fun _ _ => by have := (ho i).2; simp; omega)
  refine ⟨⟨key _ _ h1 (fun i => by omega), key _ _ h2 (fun i => by omega)⟩, ?_, ?_, ⟨by rw [World.frozen?_setCell]; exact h5, by rw [World.frozen?_setCell]; exact h6⟩, h7.setCell p u, h8.setCell p u⟩
  · obtain ⟨v', hv'⟩ := cell?_setCell_some (w := w) (p := p) (x := u) (q := ⟨g, j * 4, none⟩) (v := u0) h3
    exact ⟨v', hv'⟩
  · obtain ⟨v', hv'⟩ := cell?_setCell_some (w := w) (p := p) (x := u) (q := ⟨g, j * 4 + 3, none⟩) (v := u3) h4
    exact ⟨v', hv'⟩

/-- The blocks that rows lie in. -/
def rowsF (g : Nat) (l : List Ro) (k : Nat) : Prop := k = g ∨ ∃ x ∈ l, x.d.ownBlock = some k ∨ x.m.ownBlock = some k

theorem spoil_empty (a : Option Addr) (c : Nat) (w : World) : Calls Try.prog 23 #[.slice a 0 c] w fun e w' => e = .returned (.tuple #[]) ∧ w' = w := by
  go_enter Try.func23, Try.ntmps23
  go_wp2_with fail
  refine wp_loop_rounds 1 ?_
  rw [rounds_succ]
  go_wp2_with fail
  go_end0
  exact ⟨rfl, rfl⟩

set_option maxHeartbeats 3200000 in
set_option maxRecDepth 100000 in
theorem spoil_is (g n c : Nat) (l : List Ro) (w : World) (hn : n = l.length) (hlt : n < 2199023255552) (h : SpAt w g l) (hap : ∀ x ∈ l, (x.d.ownBlock ≠ some g ∧ x.m.ownBlock ≠ some g) ∧ x.dn < 4611686018427387904 ∧ x.mn < 4611686018427387904) :
    Calls Try.prog 23 #[.slice (some ⟨g, 0, none⟩) n c] w fun e w' => e = .returned (.tuple #[]) ∧ MovedF (rowsF g l) w w' := by
  have HS := Lib.hid h
  have HN := Lib.hid hn
  have HAP := Lib.hid hap
  have hlen : l.length < 2199023255552 := by omega
  clear h hn hap
  go_enter Try.func23, Try.ntmps23
  go_wp2_with fail
  go_loopw [2, 3, 4] (fun vi _ _ wr => ∃ i : Nat, vi = .int .i64 i ∧ i ≤ n ∧ Hid (SpAt wr g l) ∧ Hid (MovedF (rowsF g l) w wr)) (fun vi _ _ _ => n - (intOf vi).toNat)
  case atStart => exact ⟨0, rfl, by omega, HS, MovedF.refl _ _⟩
  case round =>
    obtain ⟨i, rfl, hi, HSP, HM⟩ := hrel
    by_cases hlt1 : i < n
    · have k1 : i < l.length := by have := HN.out; omega
      obtain ⟨⟨da, dn, dc, ma, mn, mc, f, m⟩, hx⟩ : ∃ x, l[i]? = some x := ⟨_, List.getElem?_eq_getElem k1⟩
      have HX := Lib.hid hx
      have q1 : (i : Int) < (n : Int) := by omega
      have c1 := (HSP.out i _ hx).1.1
      have dn63 : dn < 4611686018427387904 := (HAP.out _ (List.mem_of_getElem? hx)).2.1
      have mn63 : mn < 4611686018427387904 := (HAP.out _ (List.mem_of_getElem? hx)).2.2
      simp only at c1
      clear hx k1
      go_wp2_with fail
      go_loopw [3] (fun vk wr => ∃ k : Nat, vk = .int .i64 k ∧ k ≤ dn ∧ Hid (SpAt wr g l) ∧ Hid (MovedF (rowsF g l) w wr)) (fun vk _ => dn - (intOf vk).toNat)
      case atStart => exact ⟨0, rfl, by omega, HSP, HM⟩
      case round =>
        clear c1 HSP HM
        obtain ⟨k, rfl, hk, HSP, HM⟩ := hrel
        have c1 := (HSP.out i _ HX.out).1.1
        simp only at c1
        by_cases hlt2 : k < dn
        · obtain ⟨A, u, hA, hc, hf⟩ := (HSP.out i _ HX.out).2.2.2.2.1 k hlt2
          simp only at hA
          subst hA
          have hbA : (A.add k).block = A.block := by unfold Addr.add; split <;> rfl
          have S2 := Lib.hid (HSP.out.set (A.add k) (.string ⟨#[115, 112, 111, 105, 108, 116]⟩) (.inl (by rw [hbA]; exact fun e => (HAP.out _ (List.mem_of_getElem? HX.out)).1.1 (by rw [← e]; rfl))))
          have M2 := Lib.hid (HM.out.setCell (A := A.add k) (by rw [hbA]; exact .inr ⟨_, List.mem_of_getElem? HX.out, .inl rfl⟩) (.string ⟨#[115, 112, 111, 105, 108, 116]⟩))
          have q2 : (k : Int) < (dn : Int) := by omega
          clear hbA
          go_wp2_with fail
          go_roundw
          case rel => exact ⟨k + 1, by go_num, hlt2, S2, M2⟩
          case measure => simp [intOf]; omega
        · obtain rfl : k = dn := by omega
          have c2 := (HSP.out i _ HX.out).1.2
          simp only at c2
          go_wp2_with fail
          go_loopw [4] (fun vk wr => ∃ k2 : Nat, vk = .int .i64 k2 ∧ k2 ≤ mn ∧ Hid (SpAt wr g l) ∧ Hid (MovedF (rowsF g l) w wr)) (fun vk _ => mn - (intOf vk).toNat)
          case atStart => exact ⟨0, rfl, by omega, HSP, HM⟩
          case round =>
            clear c1 c2 HSP HM
            obtain ⟨k2, rfl, hk2, HSP, HM⟩ := hrel
            have c2 := (HSP.out i _ HX.out).1.2
            simp only at c2
            by_cases hlt3 : k2 < mn
            · obtain ⟨A, u, hA, hc, hf⟩ := (HSP.out i _ HX.out).2.2.2.2.2 k2 hlt3
              simp only at hA
              subst hA
              have hbA : (A.add k2).block = A.block := by unfold Addr.add; split <;> rfl
              have S2 := Lib.hid (HSP.out.set (A.add k2) (.int .i64 99) (.inl (by rw [hbA]; exact fun e => (HAP.out _ (List.mem_of_getElem? HX.out)).1.2 (by rw [← e]; rfl))))
              have M2 := Lib.hid (HM.out.setCell (A := A.add k2) (by rw [hbA]; exact .inr ⟨_, List.mem_of_getElem? HX.out, .inr rfl⟩) (.int .i64 99))
              have q2 : (k2 : Int) < (mn : Int) := by omega
              clear hbA
              go_wp2_with fail
              go_roundw
              case rel => exact ⟨k2 + 1, by go_num, hlt3, S2, M2⟩
              case measure => simp [intOf]; omega
            · obtain rfl : k2 = mn := by omega
              obtain ⟨⟨_, _⟩, ⟨u0, z0⟩, ⟨u3, z3⟩, ⟨f0, f3⟩, _, _⟩ := HSP.out i _ HX.out
              have S2 := Lib.hid ((HSP.out.set ⟨g, i * 4 + 3, none⟩ (.int .u64 7) (.inr ⟨i, .inr rfl⟩)).set ⟨g, i * 4, none⟩ (.int .i64 (-5)) (.inr ⟨i, .inl rfl⟩))
              have M2 := Lib.hid ((HM.out.setCell (A := ⟨g, i * 4 + 3, none⟩) (.inl rfl) (.int .u64 7)).setCell (A := ⟨g, i * 4, none⟩) (.inl rfl) (.int .i64 (-5)))
              go_wp2_with fail
              go_roundw
              case rel => exact ⟨i + 1, by go_num, hlt1, S2, M2⟩
              case measure => simp [intOf]; omega
    · obtain rfl : i = n := by omega
      go_wp2_with fail
      go_end0
      exact ⟨rfl, HM.out⟩

end Go.Proofs.Ytcbgnikbaepkaaa
