/- Join and Same. -/
import Derived.Test.YtcbgnikbaepkaaaJo
import Derived.Test.YtcbgnikbaepkaaaRb
namespace Go.Proofs.Ytcbgnikbaepkaaa
open Go.Shelf Go.RowKit Go.Lib Go.Sort Go.Proofs

/-- Rows with a slice that is nil only with no room. -/
structure RowsIn (w : World) (a : Option Addr) (n c : Nat) (l : List Ro) : Prop where
  rows : RowsAt w (.slice a n c) l
  len : n = l.length
  none : a = Option.none → c = 0

theorem RowsIn.kept {w w' : World} {a : Option Addr} {n c : Nat} {l : List Ro} (h : RowsIn w a n c l) (hk : Kept w w') : RowsIn w' a n c l := ⟨h.rows.kept hk, h.len, h.none⟩

theorem RowsIn.src {w : World} {a : Option Addr} {n c : Nat} {l : List Ro} (h : RowsIn w a n c l) : Src w (.slice a n c) l := by
  cases a with
  | none =>
    have h1 := h.none rfl
    have h2 : l = [] := by
      cases l with
      | nil => rfl
      | cons x l =>
        obtain ⟨A, hA, _⟩ := h.rows.cells _ _ _ rfl 0 (by simp)
        cases hA
    have h3 := h.len
    subst h2 h1
    exact .inl ⟨by rw [h3]; rfl, rfl⟩
  | some A =>
    have := h.rows.front l.length (Nat.le_refl _) c
    rw [List.take_length] at this
    rw [h.len]; exact this

theorem OwnRows.rowsIn {w : World} {base n c : Nat} {a : Option Addr} {l : List Ro} (h : OwnRows w base (.slice a n c) l) (hok : ∀ x ∈ l, x.ok w) (hl : l.length < 2199023255552) : RowsIn w a n c l :=
  ⟨h.rowsAt hok hl, by obtain ⟨_, _, hv⟩ := h.slice; injection hv, h.nonecap⟩

/-- The state of Concat's second loop. -/
def CatAt (w : World) (l1 l2 : List Ro) (k : Nat) (v : Value) (wr : World) : Prop := OwnRows wr w.heap.size v (if k = 0 then [] else if k = 1 then l1 else l1 ++ l2) ∧ Kept w wr

set_option maxHeartbeats 3200000 in
set_option maxRecDepth 100000 in
theorem concat_is (b : Nat) (a1 a2 : Option Addr) (n1 n2 c1 c2 : Nat) (l1 l2 : List Ro) (w : World) (hb : w.heap[b]? = some (.cells #[.slice a1 n1 c1, .slice a2 n2 c2] 36 (0, 0))) (h1 : RowsIn w a1 n1 c1 l1) (h2 : RowsIn w a2 n2 c2 l2) (hl : l1.length + l2.length < 2199023255552) :
    Calls Try.prog 37 #[.slice (some ⟨b, 0, none⟩) 2 2] w fun e w' => ∃ a n c, e = .returned (.slice a n c) ∧ (n = l1.length + l2.length ∧ OwnRows w' w.heap.size (.slice a n c) (l1 ++ l2)) ∧ Kept w w' := by
  have hn1 := h1.len
  have hn2 := h2.len
  have H1 := Lib.hid h1
  have H2 := Lib.hid h2
  have HB := Lib.hid hb
  have N1 := Lib.hid hn1
  have N2 := Lib.hid hn2
  have m1 : n1 + n2 < 2199023255552 := by omega
  have hgrow := fun V => grow_is (n1 + n2) V m1
  have HG := Lib.hid hgrow
  have s0 : w.cell? ⟨b, 0, none⟩ = some (.slice a1 n1 c1) := by simp only [World.cell?, hb]; rfl
  have s1 : w.cell? ⟨b, 1, none⟩ = some (.slice a2 n2 c2) := by simp only [World.cell?, hb]; rfl
  clear h1 h2 hb hn1 hn2 hgrow
  go_enter Try.func37, Try.ntmps37
  go_wp2_with fail
  go_loop [3, 5, 11] (fun vs _ vk => (vk = .int .i64 0 ∧ vs = .int .i64 0) ∨ (vk = .int .i64 1 ∧ vs = .int .i64 n1) ∨ (vk = .int .i64 2 ∧ vs = .int .i64 ((n1 : Int) + n2))) (fun _ _ vk => 2 - (intOf vk).toNat)
  case atStart => exact .inl ⟨rfl, rfl⟩
  case round =>
    rcases hrel with ⟨rfl, rfl⟩ | ⟨rfl, rfl⟩ | ⟨rfl, rfl⟩
    · go_wp2_with fail
      go_round
      case rel => exact .inr (.inl ⟨rfl, by first | rfl | (congr 1; omega)⟩)
      case measure => simp [intOf]
    · go_wp2_with fail
      go_round
      case rel => exact .inr (.inr ⟨rfl, by first | rfl | (congr 1; omega)⟩)
      case measure => simp [intOf]
    · go_wp2_with fail
      rw [show (n1 : Int) + (n2 : Int) = ((n1 + n2 : Nat) : Int) from by omega]
      refine (HG.out w).mono ?_
      rintro e w1 ⟨ag, cg, rfl, ho, hk⟩
      have HC0 := Lib.hid (show CatAt w l1 l2 0 (.slice ag 0 cg) w1 from ⟨ho, hk⟩)
      clear ho hk
      go_wp2_with fail
      go_loopw [6, 8, 27] (fun vo _ vk wr => ∃ k : Nat, vk = .int .i64 k ∧ k ≤ 2 ∧ Hid (CatAt w l1 l2 k vo wr)) (fun _ _ vk _ => 2 - (intOf vk).toNat)
      case atStart => exact ⟨0, rfl, by omega, HC0⟩
      case round =>
        obtain ⟨k, rfl, hk, HC⟩ := hrel
        have t0 := HC.out.2.cell s0
        have t1 := HC.out.2.cell s1
        have hbs : w.heap.size ≤ wr.heap.size := HC.out.2.size
        obtain rfl | rfl | rfl : k = 0 ∨ k = 1 ∨ k = 2 := by omega
        · have HS := Lib.hid (H1.out.kept HC.out.2).src
          go_wp2_with (at_builtin; refine wpList_append_rows rfl _ _ rfl wr w.heap.size u6 [] rfl HC.out.1 (.slice a1 n1 c1) l1 rfl HS.out (by simp only [List.length_nil]; have := N1.out; omega) hbs n1 (by simp only [List.length_nil]; have := N1.out; omega) ?_; intro a4 c4 w4 ho4 hg4; have C4 := Lib.hid (show CatAt w l1 l2 1 (.slice a4 n1 c4) w4 from ⟨ho4, kept_grownBy HC.out.2 hg4 (fun k e => (HC.out.1.lt e).1)⟩); clear ho4 hg4)
          go_roundw
          case rel => exact ⟨1, rfl, by omega, C4⟩
          case measure => simp [intOf]
        · have HS := Lib.hid (H2.out.kept HC.out.2).src
          go_wp2_with (at_builtin; refine wpList_append_rows rfl _ _ rfl wr w.heap.size u6 l1 rfl HC.out.1 (.slice a2 n2 c2) l2 rfl HS.out hl hbs (n1 + n2) (by have := N1.out; have := N2.out; omega) ?_; intro a4 c4 w4 ho4 hg4; have C4 := Lib.hid (show CatAt w l1 l2 2 (.slice a4 (n1 + n2) c4) w4 from ⟨ho4, kept_grownBy HC.out.2 hg4 (fun k e => (HC.out.1.lt e).1)⟩); clear ho4 hg4)
          go_roundw
          case rel => exact ⟨2, rfl, by omega, C4⟩
          case measure => simp [intOf]
        · have hfin : OwnRows wr w.heap.size u6 (l1 ++ l2) := HC.out.1
          obtain ⟨a5, c5, h5⟩ := hfin.slice
          rw [List.length_append] at h5
          subst h5
          have HF := Lib.hid hfin
          clear hfin
          go_wp2_with fail
          go_ret
          exact ⟨a5, _, c5, rfl, ⟨rfl, HF.out⟩, HC.out.2⟩

theorem bagAll_is (v : Value) (l : List Ro) (w : World) (h : RowsAt w v l) (hf : Fit (l.map Ro.p)) : Calls Try.prog 33 #[v, .func (.func 34) #[] #[]] w (BagR w (l.map Ro.p)) :=
  (bag_any v l w (fun _ => true) 34 #[] h hf (fun V _ x _ => all_is x V) (fun args W => enters_of Try.func34 (by kernel_rfl) rfl args W)).mono fun _ _ hb => by
    rwa [List.filter_eq_self.2 (fun _ _ => rfl)] at hb

theorem fit_append {a b : Ps} (ha : Fit a) (hb : Fit b) : Fit (a ++ b) := fun p hp => by
  rcases List.mem_append.1 hp with h | h
  · exact ha p h
  · exact hb p h

theorem bagR_rows {w w' : World} {a : Option Addr} {n c : Nat} {l' : List Ro} {ps : Ps} {base : Nat} (h : n = l'.length ∧ OwnRows w' base (.slice a n c) l' ∧ l'.map Ro.p = ownP ps ∧ ∀ y ∈ l', y.mine w' ∧ ∀ g, (Value.slice a n c).ownBlock = some g → Apart w.heap.size g y) (hl : ps.length < 2199023255552) : RowsIn w' a n c l' := by
  refine h.2.1.rowsIn (fun y hy => (h.2.2.2 y hy).1.1) ?_
  have h1 := congrArg List.length h.2.2.1
  have h2 := ownP_length ps
  rw [List.length_map] at h1
  omega

theorem fit_own {l : List Ro} {ps : Ps} (h : l.map Ro.p = ownP ps) (hf : Fit ps) : Fit (l.map Ro.p) := by
  rw [h]; exact (ownP_inv ps hf).2.1

set_option maxHeartbeats 3200000 in
set_option maxRecDepth 100000 in
theorem join_is (a1 a2 : Option Addr) (n1 n2 c1 c2 : Nat) (l1 l2 : List Ro) (w : World) (h1 : RowsIn w a1 n1 c1 l1) (h2 : RowsIn w a2 n2 c2 l2) (f1 : Fit (l1.map Ro.p)) (f2 : Fit (l2.map Ro.p)) (hl : l1.length + l2.length < 2199023255552) :
    Calls Try.prog 22 #[.slice a1 n1 c1, .slice a2 n2 c2] w (BagR w (l1.map Ro.p ++ l2.map Ro.p)) := by
  obtain ⟨W, hW⟩ : ∃ W, W = w.alloc (.cells #[.slice a1 n1 c1, .slice a2 n2 c2] 36) := ⟨_, rfl⟩
  have gW : Grows w W := by rw [hW]; exact Grows.alloc _ _
  have bW : W.heap[w.heap.size]? = some (.cells #[.slice a1 n1 c1, .slice a2 n2 c2] 36 (0, 0)) := by rw [hW]; exact (MapKept.heap_alloc _ _).1
  have hc := concat_is w.heap.size a1 a2 n1 n2 c1 c2 l1 l2 W bW (h1.kept gW.kept) (h2.kept gW.kept) hl
  have HC := Lib.hid hc
  have HW := Lib.hid hW
  have GW := Lib.hid gW
  have HF := Lib.hid (show Fit ((l1 ++ l2).map Ro.p) by rw [List.map_append]; exact fit_append f1 f2)
  have O1 := Lib.hid h1
  have O2 := Lib.hid h2
  clear hc hW gW bW h1 h2 f1 f2
  go_enter Try.func22, Try.ntmps22
  go_wp2_with fail
  rw [← HW.out]
  refine HC.out.mono ?_
  rintro e w1 ⟨a3, n3, c3, rfl, ⟨hn3, ho3⟩, hk3⟩
  have K3 := Lib.hid (GW.out.kept.trans hk3)
  have hok : ∀ x ∈ l1 ++ l2, x.ok w1 := fun x hx => by
    rcases List.mem_append.1 hx with h | h
    · exact FaAt.kept (O1.out.rows.ok x h) K3.out
    · exact FaAt.kept (O2.out.rows.ok x h) K3.out
  have hb := bagAll_is (.slice a3 n3 c3) (l1 ++ l2) w1 (ho3.rowsAt hok (by rw [List.length_append]; exact hl)) HF.out
  rw [List.map_append] at hb
  have HB := Lib.hid hb
  clear hn3 ho3 hk3 hok hb
  go_wp2_with fail
  refine HB.out.mono ?_
  intro e w2 h2
  have H2 := Lib.hid (h2.base K3.out)
  obtain ⟨a5, n5, c5, l5, rfl, h5⟩ := h2
  clear h5
  go_wp2_with fail
  go_ret
  exact H2.out

set_option maxHeartbeats 3200000 in
set_option maxRecDepth 100000 in
theorem same_is (a1 a2 : Option Addr) (n1 n2 c1 c2 : Nat) (l1 l2 : List Ro) (w : World) (h1 : RowsIn w a1 n1 c1 l1) (h2 : RowsIn w a2 n2 c2 l2) (f1 : Fit (l1.map Ro.p)) (f2 : Fit (l2.map Ro.p)) :
    Calls Try.prog 26 #[.slice a1 n1 c1, .slice a2 n2 c2] w fun e w' => e = .returned (.bool (eqP (ownP (l1.map Ro.p)) (ownP (l2.map Ro.p)))) ∧ Kept w w' := by
  have b1 := h1.rows.len
  have b2 := h2.rows.len
  have O1 := Lib.hid h1
  have O2 := Lib.hid h2
  have F1 := Lib.hid f1
  have F2 := Lib.hid f2
  clear h1 h2 f1 f2
  go_enter Try.func26, Try.ntmps26
  go_wp2_with fail
  refine (bagAll_is (.slice a1 n1 c1) l1 w O1.out.rows F1.out).mono ?_
  rintro e w1 ⟨a3, n3, c3, l3, rfl, h3, hk3⟩
  have K3 := Lib.hid hk3
  have H3 := Lib.hid h3
  clear h3 hk3
  go_wp2_with fail
  refine (bagAll_is (.slice a2 n2 c2) l2 w1 (O2.out.kept K3.out).rows F2.out).mono ?_
  rintro e w2 ⟨a4, n4, c4, l4, rfl, h4, hk4⟩
  have K4 := Lib.hid hk4
  have H4 := Lib.hid h4
  clear h4 hk4
  go_wp2_with fail
  have R3 := (bagR_rows H3.out (by rw [List.length_map]; exact b1)).kept K4.out
  have R4 := bagR_rows H4.out (by rw [List.length_map]; exact b2)
  have he := equalFunc_is a3 a4 n3 n4 c3 c4 l3 l4 w2 R3.rows R4.rows R3.len R4.len
  rw [H3.out.2.2.1, H4.out.2.2.1] at he
  refine he.mono ?_
  rintro e w3 ⟨rfl, hg⟩
  have K5 := Lib.hid ((K3.out.trans K4.out).trans hg.kept)
  clear hg he R3 R4
  go_wp2_with fail
  go_ret
  exact ⟨rfl, K5.out⟩

end Go.Proofs.Ytcbgnikbaepkaaa
