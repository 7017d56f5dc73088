/- The stable sort of any rows. -/
import Derived.Test.YtcbgnikbaepkaaaSd
namespace Go.Proofs.Ytcbgnikbaepkaaa
open Go.Shelf Go.RowKit Go.Lib Go.Sort Go.Proofs

theorem symMerge_is {w0 w : World} {blk cap : Nat} {d0 : Array (Rw w0)} (size : Nat) (R : RK w0 w blk d0) (hC : CL w0 w blk d0.size) (hsize : size = d0.size) (hsz : size < 4611686018427387904) : ∀ (fuel : Nat)
    (d : Array (Rw w0)) (W : World) (a m b : Nat), d.size = size → b - a ≤ fuel → a < m → m < b → b ≤ size → SW w0 w blk d W → SortedIn (ltR w0) a m d → SortedIn (ltR w0) m b d →
      Calls Try.prog 58 #[.slice (some ⟨blk, 0, none⟩) size cap, .int .i64 a, .int .i64 m, .int .i64 b, .func (.func 46) #[] #[]] W (MergeIs w blk a b d) := by
  intro fuel
  induction fuel with
  | zero => intro d W a m b _ h _ _; omega
  | succ fuel ih =>
    intro d W a m b hds hf ham hmb hb S h1 h2
    by_cases e1 : m = a + 1
    · subst e1
      have := symMerge_left (cap := cap) d a b R hC (hds.trans hsize) S hmb (by omega) (by omega) h2
      rw [hds] at this
      exact this
    · by_cases e2 : b = m + 1
      · subst e2
        have := symMerge_right (cap := cap) d a m R hC (hds.trans hsize) S (by omega) (by omega) (by omega) h1
        rw [hds] at this
        exact this
      · exact symMerge_step size R hC hsize hsz fuel ih d W a m b hds hf (by omega) (by omega) hb S h1 h2

theorem symMerge_any {w0 w W : World} {blk cap : Nat} {d0 : Array (Rw w0)} (d : Array (Rw w0)) (a m b : Nat) (x y z : Int) (size : Nat) (R : RK w0 w blk d0) (hC : CL w0 w blk d0.size) (hsize : size = d0.size) (hsz : size < 4611686018427387904) (hds : d.size = size) (hx : x = a) (hy : y = m) (hz : z = b) (ham : a < m) (hmb : m < b) (hb : b ≤ size)
    (S : SW w0 w blk d W) (h1 : SortedIn (ltR w0) a m d) (h2 : SortedIn (ltR w0) m b d) :
    Calls Try.prog 58 #[.slice (some ⟨blk, 0, none⟩) size cap, .int .i64 x, .int .i64 y, .int .i64 z, .func (.func 46) #[] #[]] W (MergeIs w blk a b d) := by
  subst hx hy hz
  exact symMerge_is size R hC hsize hsz _ d W a m b hds (Nat.le_refl _) ham hmb hb S h1 h2

theorem insertion_sw {w0 w W : World} {blk cap : Nat} {d0 : Array (Rw w0)} (d : Array (Rw w0)) (a b : Nat) (x y : Int) (size : Nat) (R : RK w0 w blk d0) (hk : Kept w0 w) (h0 : w0.heap.size ≤ blk) (hsize : size = d0.size) (hsz : size < 4611686018427387904) (hds : d.size = size) (hx : x = a) (hy : y = b) (hab : a ≤ b) (hb : b ≤ size) (S : SW w0 w blk d W) :
    Calls Try.prog 57 #[.slice (some ⟨blk, 0, none⟩) size cap, .int .i64 x, .int .i64 y, .func (.func 46) #[] #[]] W (MergeIs w blk a b d) := by
  subst hx hy
  have hk2 : Kept w0 W := by
    obtain ⟨n, os, rfl⟩ := S
    exact sortWorldK_kept hk h0 R.hblk _ 4 n d os
  have h := insertion_is (cap := cap) (a := a) (b := b) d hk2 h0 (S.lt R.hblk) (S.holds R.hblk R.hH (hds.trans hsize)) hab (by omega) (by omega)
  rw [hds] at h
  refine h.mono ?_
  rintro e w' ⟨rfl, n, os, rfl⟩
  obtain ⟨p1, p2⟩ := insertionSort_holds (lt := ltR w0) (swo_rows w0) d a b hab (by omega)
  exact ⟨rfl, _, S.on R.hblk n _ os p1.1, p1.1, fun lo hi h1 h2 h3 => permIn_mono _ _ a b lo hi h1 h2 h3 p1, p2⟩

def StableIs {w0 : World} (w : World) (blk : Nat) (d : Array (Rw w0)) (e : Ending) (w' : World) : Prop :=
  e = .returned (.tuple #[]) ∧ ∃ d', SW w0 w blk d' w' ∧ PermIn 0 d.size d d' ∧ SortedIn (ltR w0) 0 d.size d'

set_option maxHeartbeats 3200000 in
set_option maxRecDepth 100000 in
theorem stable_is {w0 w : World} {blk cap : Nat} (d : Array (Rw w0)) (size : Nat) (R : RK w0 w blk d) (hk : Kept w0 w) (h0 : w0.heap.size ≤ blk) (hsize : size = d.size) (hsz : size < 1152921504606846976) :
    Calls Try.prog 52 #[.slice (some ⟨blk, 0, none⟩) size cap, .int .i64 size, .func (.func 46) #[] #[]] w (StableIs w blk d) := by
  have HSIZE := Lib.hid hsize
  have HC := Lib.hid (cmpLays hk h0 R.hblk d.size)
  have HK := Lib.hid hk
  have hsz2 : size < 4611686018427387904 := by omega
  clear hk hsize
  go_enter Try.func52, Try.ntmps52
  go_wp2_with fail
  go_loopw [7, 8] (fun va vb wr => ∃ (q a b : Nat) (dk : Array (Rw w0)), va = .int .i64 a ∧ vb = .int .i64 b ∧ Hid (a = q * 20) ∧ b ≤ a + 20 ∧ a + 20 ≤ b ∧ a ≤ size ∧ Hid (dk.size = size) ∧ Hid (SW w0 w blk dk wr) ∧ Hid (Front (ltR w0) 20 a dk) ∧ Hid (PermOut 0 size d dk)) (fun va _ _ => size - (intOf va).toNat)
  case atStart => exact ⟨0, 0, 20, d, rfl, rfl, rfl, by omega, by omega, by omega, HSIZE.out.symm, SWK.start R.hH, front_zero _ (by decide) _, permOut_refl _ _ _⟩
  case round =>
    obtain ⟨q, a, b, dk, rfl, rfl, HA, hb1, hb2, ha, HDS, HW, HF, HP⟩ := hrel
    by_cases hlt : b ≤ size
    · have hlt2 : (b : Int) ≤ (size : Int) := by omega
      go_wp2_with fail
      refine (insertion_sw dk a b _ _ size R HK.out h0 HSIZE.out hsz2 HDS.out rfl rfl (by omega) hlt HW.out).mono ?_
      rintro e w1 ⟨rfl, d1, q1, q2, q3, q4⟩
      have S1 := Lib.hid q1
      have D1 := Lib.hid (q2.trans HDS.out)
      have P1 := Lib.hid (HP.out.trans (HDS.out.trans HSIZE.out) (q3.mono (a' := 0) (b' := size) (by omega) (by omega)))
      have F1 := Lib.hid (show Front (ltR w0) 20 b d1 from by
        have e1 := HA.out
        have hb : b = q * 20 + 20 := by omega
        have hf := HF.out
        rw [e1] at hf
        have := hf.more (q := q) (by rw [← hb, ← e1]; exact q3 a b (Nat.le_refl _) (Nat.le_refl _) (by rw [HDS.out]; exact hlt)) (by rw [← hb, ← e1]; exact q4)
        rwa [show (q + 1) * 20 = b by omega] at this)
      have A1 := Lib.hid (show b = (q + 1) * 20 by have := HA.out; omega)
      clear q1 q2 q3 q4 HP HF
      go_wp2_with fail
      go_roundw
      case rel => exact ⟨q + 1, b, b + 20, d1, rfl, by go_num, A1, by omega, by omega, hlt, D1, S1, F1, P1⟩
      case measure => simp [intOf]; omega
    · have hlt2 : ¬ (b : Int) ≤ (size : Int) := by omega
      go_wp2_with fail
      refine (insertion_sw dk a size _ _ size R HK.out h0 HSIZE.out hsz2 HDS.out rfl rfl ha (Nat.le_refl _) HW.out).mono ?_
      rintro e w1 ⟨rfl, d1, q1, q2, q3, q4⟩
      have S1 := Lib.hid q1
      have D1 := Lib.hid (q2.trans HDS.out)
      have P1 := Lib.hid (HP.out.trans (HDS.out.trans HSIZE.out) (q3.mono (a' := 0) (b' := size) (by omega) (by omega)))
      have B1 := Lib.hid (show Blocks (ltR w0) 20 0 size d1 from by
        have e1 := HA.out
        have hf := HF.out
        rw [e1] at hf
        exact hf.all (q := q) (by rw [← e1]; exact q3 a size (Nat.le_refl _) (Nat.le_refl _) (by rw [HDS.out]; exact Nat.le_refl _)) (by rw [← e1]; exact q4) (by omega))
      clear q1 q2 q3 q4 HP HF HW HDS
      go_wp2_with fail
      go_loopw [6, 7, 8, 9] (fun vs _ _ _ wr => ∃ (bs : Nat) (dk : Array (Rw w0)), vs = .int .i64 bs ∧ 0 < bs ∧ bs ≤ 2 * size + 20 ∧ Hid (dk.size = size) ∧ Hid (SW w0 w blk dk wr) ∧ Hid (Blocks (ltR w0) bs 0 size dk) ∧ Hid (PermOut 0 size d dk)) (fun vs _ _ _ _ => size - (intOf vs).toNat)
      case atStart => exact ⟨20, d1, rfl, by decide, by omega, D1, S1, B1, P1⟩
      case round =>
        obtain ⟨bs, dk2, rfl, hbs, hbs2, HDS2, HW2, HB2, HP2⟩ := hrel
        by_cases hlt3 : bs < size
        · have hlt4 : (bs : Int) < (size : Int) := by omega
          go_wp2_with fail
          go_loopw [7, 8] (fun va vb wr => ∃ (q a b : Nat) (dk : Array (Rw w0)), va = .int .i64 a ∧ vb = .int .i64 b ∧ Hid (a = q * (2 * bs)) ∧ b ≤ a + 2 * bs ∧ a + 2 * bs ≤ b ∧ a ≤ size ∧ Hid (dk.size = size) ∧ Hid (SW w0 w blk dk wr) ∧ Hid (Front (ltR w0) (2 * bs) a dk) ∧ Hid (Blocks (ltR w0) bs a size dk) ∧ Hid (PermOut 0 size d dk)) (fun va _ _ => size - (intOf va).toNat)
          case atStart => exact ⟨0, 0, 2 * bs, dk2, rfl, by go_num, (show 0 = 0 * (2 * bs) by rw [Nat.zero_mul]), by omega, by omega, by omega, HDS2, HW2, front_zero _ (by omega) _, HB2, HP2⟩
          case round =>
            obtain ⟨q, a, b, dk, rfl, rfl, HA3, hb1, hb2, ha3, HDS3, HW3, HF3, HB3, HP3⟩ := hrel
            by_cases hlt5 : b ≤ size
            · have hlt6 : (b : Int) ≤ (size : Int) := by omega
              go_wp2_with fail
              refine (symMerge_any dk a (a + bs) b _ _ _ size R HC.out HSIZE.out hsz2 HDS3.out rfl (by omega) rfl (by omega) (by omega) hlt5 HW3.out (HB3.out.first (by omega)) (HB3.out.second (by omega))).mono ?_
              rintro e w2 ⟨rfl, d2, q1, q2, q3, q4⟩
              have S2 := Lib.hid q1
              have D2 := Lib.hid (q2.trans HDS3.out)
              have P2 := Lib.hid (HP3.out.trans (HDS3.out.trans HSIZE.out) (q3.mono (a' := 0) (b' := size) (by omega) (by omega)))
              have qp := q3 a b (Nat.le_refl _) (Nat.le_refl _) (by rw [HDS3.out]; exact hlt5)
              have hbe : b = a + 2 * bs := by omega
              have F2 := Lib.hid (show Front (ltR w0) (2 * bs) b d2 from by
                have e1 := HA3.out
                have hf := HF3.out
                rw [e1] at hf
                have := hf.more (q := q) (d' := d2) (by rw [← e1, ← hbe]; exact qp) (by rw [← e1, ← hbe]; exact q4)
                rwa [Nat.add_mul, Nat.one_mul, ← e1, ← hbe] at this)
              have B2 := Lib.hid (show Blocks (ltR w0) bs b size d2 from by
                rw [hbe]
                exact HB3.out.next (by rw [← hbe]; exact qp))
              have A2 := Lib.hid (show b = (q + 1) * (2 * bs) by rw [Nat.add_mul, Nat.one_mul, ← HA3.out, hbe])
              clear q1 q2 q3 q4 qp hbe HP3 HF3 HB3 HW3
              go_wp2_with fail
              go_roundw
              case rel => exact ⟨q + 1, b, b + 2 * bs, d2, rfl, by go_num, A2, by omega, by omega, hlt5, D2, S2, F2, B2, P2⟩
              case measure => simp [intOf]; omega
            · have hlt6 : ¬ (b : Int) ≤ (size : Int) := by omega
              by_cases hmr : a + bs < size
              · have hmr2 : (a : Int) + (bs : Int) < (size : Int) := by omega
                go_wp2_with fail
                refine (symMerge_any dk a (a + bs) size _ _ _ size R HC.out HSIZE.out hsz2 HDS3.out rfl (by omega) rfl (by omega) hmr (Nat.le_refl _) HW3.out (HB3.out.first (by omega)) (HB3.out.second (by omega))).mono ?_
                rintro e w2 ⟨rfl, d2, q1, q2, q3, q4⟩
                have S2 := Lib.hid q1
                have D2 := Lib.hid (q2.trans HDS3.out)
                have P2 := Lib.hid (HP3.out.trans (HDS3.out.trans HSIZE.out) (q3.mono (a' := 0) (b' := size) (by omega) (by omega)))
                have B2 := Lib.hid (show Blocks (ltR w0) (bs * 2) 0 size d2 from by
                  have e1 := HA3.out
                  have hf := HF3.out
                  rw [e1] at hf
                  have := hf.all (q := q) (n := size) (d' := d2) (by rw [← e1]; exact q3 a size (Nat.le_refl _) (Nat.le_refl _) (by rw [HDS3.out]; exact Nat.le_refl _)) (by rw [← e1]; exact q4) (by rw [← e1]; omega)
                  rwa [Nat.mul_comm] at this)
                clear q1 q2 q3 q4 HP3 HF3 HB3 HW3
                go_wp2_with fail
                go_roundw
                case rel => exact ⟨bs * 2, d2, by go_num, by omega, by omega, D2, S2, B2, P2⟩
                case measure => simp [intOf]; omega
              · have hmr2 : ¬ (a : Int) + (bs : Int) < (size : Int) := by omega
                have B2 := Lib.hid (show Blocks (ltR w0) (bs * 2) 0 size dk from by
                  have e1 := HA3.out
                  have hf := HF3.out
                  have hs := HB3.out.last (by omega)
                  rw [e1] at hf
                  have := hf.all (q := q) (n := size) (d' := dk) (permIn_refl _ _ _) (by rw [← e1]; exact hs) (by rw [← e1]; omega)
                  rwa [Nat.mul_comm] at this)
                clear HF3 HB3
                go_wp2_with fail
                go_roundw
                case rel => exact ⟨bs * 2, dk, by go_num, by omega, by omega, HDS3, HW3, B2, HP3⟩
                case measure => simp [intOf]; omega
        · have hlt4 : ¬ (bs : Int) < (size : Int) := by omega
          have hfin : StableIs w blk d (.returned (.tuple #[])) wr := by
            have h1 := HP2.out 0 size (Nat.le_refl _) (Nat.le_refl _) (by rw [← HSIZE.out]; exact Nat.le_refl _)
            have h2 := HB2.out.last (by omega)
            rw [HSIZE.out] at h1 h2
            exact ⟨rfl, dk2, HW2.out, h1, h2⟩
          have HFIN := Lib.hid hfin
          clear hfin
          go_wp2_with fail
          go_end0
          exact HFIN.out

theorem sort_any {w0 w : World} {blk cap : Nat} (d : Array (Rw w0)) (size : Nat) (R : RK w0 w blk d) (hk : Kept w0 w) (h0 : w0.heap.size ≤ blk) (hsize : size = d.size) (hsz : size < 1152921504606846976) :
    Calls Try.prog 45 #[.slice (some ⟨blk, 0, none⟩) size cap, .func (.func 46) #[] #[]] w (StableIs w blk d) := by
  have h := stable_is (cap := cap) d size R hk h0 hsize hsz
  have H := Lib.hid h
  clear h hk hsize R
  go_enter Try.func45, Try.ntmps45
  go_wp2_with fail
  refine H.out.mono ?_
  rintro e w1 ⟨rfl, d', q1, q2, q3⟩
  have hfin : StableIs w blk d (.returned (.tuple #[])) w1 := ⟨rfl, d', q1, q2, q3⟩
  have HF := Lib.hid hfin
  clear q1 q2 q3 hfin
  go_wp2_with fail
  go_end0
  exact HF.out

/-- The sort of any rows, as one contract. -/
theorem sorts_any {w0 w : World} {base g n c : Nat} {l : List Ro} (ho : OwnRows w base (.slice (some ⟨g, 0, none⟩) n c) l) (h : ∀ x ∈ l, x.ok w0) (hk : Kept w0 w) (h0 : w0.heap.size ≤ base) (hn : l.length < 1152921504606846976) :
    Calls Try.prog 45 #[.slice (some ⟨g, 0, none⟩) n c, .func (.func 46) #[] #[]] w (Sorts w0 base g n c l w) := by
  have hlt := ho.lt (k := g) rfl
  obtain ⟨a, c', hv⟩ := ho.slice
  have hnl : n = l.length := by injection hv
  have hs := arr_size l h
  have R : RK w0 w g (arr l h) := ⟨enc_len, enc_one, ho.holds h, hlt.2⟩
  refine (sort_any (cap := c) (arr l h) n R hk (by omega) (by omega) (by omega)).mono ?_
  rintro e w' ⟨rfl, d', ⟨m, os, hw⟩, p1, p2⟩
  exact sorts_of ho h d' p1 p2 os hw

/-- .. as bag asks it. -/
theorem sort_all (N : Nat) (hN : N < 1152921504606846976) (w0 wr : World) (g c : Nat) (rows : List Ro) (hk : Kept w0 wr) (ho : OwnRows wr w0.heap.size (.slice (some ⟨g, 0, none⟩) rows.length c) rows) (hr : ∀ x ∈ rows, x.ok w0) (hl : rows.length ≤ N) :
    Calls Try.prog 45 #[.slice (some ⟨g, 0, none⟩) rows.length c, .func (.func 46) #[] #[]] wr (Sorts w0 w0.heap.size g rows.length c rows wr) :=
  sorts_any ho hr hk (Nat.le_refl _) (Nat.lt_of_le_of_lt hl hN)

end Go.Proofs.Ytcbgnikbaepkaaa
