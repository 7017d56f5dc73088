/- symMerge, whole. -/
import Derived.Test.YtcbgnikbaepkaaaSc
namespace Go.Proofs.Ytcbgnikbaepkaaa
open Go.Shelf Go.RowKit Go.Lib Go.Sort Go.Proofs

theorem rot_none {α : Type} [Inhabited α] (d : Array α) {s m e : Nat} (hsm : s ≤ m) (hme : m ≤ e) (h : ¬ (s < m ∧ m < e)) : Rot d d s m e := by
  refine ⟨rfl, fun t => ?_⟩
  by_cases h1 : s ≤ t ∧ t < s + (e - m)
  · rw [if_pos h1]
    congr 1; omega
  · rw [if_neg h1]
    by_cases h2 : s + (e - m) ≤ t ∧ t < e
    · rw [if_pos h2]
      congr 1; omega
    · rw [if_neg h2]

/-- The three steps joined. -/
theorem merge_fin {w0 w W : World} {blk a b mid : Nat} {d d1 d2 d3 : Array (Rw w0)} (ham : a ≤ mid) (hmb : mid ≤ b) (hb : b ≤ d.size) (S : SW w0 w blk d3 W) (s1 : d1.size = d.size) (s2 : d2.size = d.size) (s3 : d3.size = d.size) (p1 : PermOut a b d d1) (p2 : PermOut a mid d1 d2) (p3 : PermOut mid b d2 d3)
    (hx : Cross (ltR w0) a mid b d1) (hl : SortedIn (ltR w0) a mid d2) (hr : SortedIn (ltR w0) mid b d3) : MergeIs w blk a b d (.returned (.tuple #[])) W := by
  refine ⟨rfl, d3, S, s3, (p1.trans s1 (p2.mono (Nat.le_refl _) hmb)).trans s2 (p3.mono ham (Nat.le_refl _)), ?_⟩
  have q2 := p2 a mid (Nat.le_refl _) (Nat.le_refl _) (by omega)
  have q3 := p3 mid b (Nat.le_refl _) (Nat.le_refl _) (by omega)
  exact glue (sorted_out hl q3 (.inl (Nat.le_refl _))) hr ((hx.perm (by omega) q2).perm2 (by omega) q3)

theorem rotate_any {w0 w W : World} {blk cap : Nat} {d0 : Array (Rw w0)} (d : Array (Rw w0)) (a m b len : Nat) (R : RK w0 w blk d0) (hs : d.size = d0.size) (S : SW w0 w blk d W) (hlen : len = d.size) (ham : a < m) (hmb : m < b) (hb : b ≤ d.size) (hsz : d.size < 4611686018427387904) :
    Calls Try.prog 59 #[.slice (some ⟨blk, 0, none⟩) len cap, .int .i64 a, .int .i64 m, .int .i64 b, .func (.func 46) #[] #[]] W (RotIs w blk a m b d) := by
  subst hlen
  exact rotate_is d a m b R hs S ham hmb hb hsz

/-- What the search has found. -/
def Found {w0 : World} (d : Array (Rw w0)) (n lo hi s r : Nat) : Prop := (lo < s → ltR w0 d[n - s]! d[s - 1]! = false) ∧ (r < hi → ltR w0 d[n - 1 - r]! d[r]! = true)

set_option maxHeartbeats 16000000 in
set_option maxRecDepth 100000 in
theorem symMerge_step {w0 w : World} {blk cap : Nat} {d0 : Array (Rw w0)} (size : Nat) (R : RK w0 w blk d0) (hC : CL w0 w blk d0.size) (hsize : size = d0.size) (hsz : size < 4611686018427387904) (fuel : Nat)
    (ih : ∀ (d : Array (Rw w0)) (W : World) (a m b : Nat), d.size = size → b - a ≤ fuel → a < m → m < b → b ≤ size → SW w0 w blk d W → SortedIn (ltR w0) a m d → SortedIn (ltR w0) m b d →
      Calls Try.prog 58 #[.slice (some ⟨blk, 0, none⟩) size cap, .int .i64 a, .int .i64 m, .int .i64 b, .func (.func 46) #[] #[]] W (MergeIs w blk a b d))
    (d : Array (Rw w0)) (W : World) (a m b : Nat) (hds : d.size = size) (hf : b - a ≤ fuel + 1) (ham : a + 1 < m) (hmb : m + 1 < b) (hb : b ≤ size) (S : SW w0 w blk d W) (h1 : SortedIn (ltR w0) a m d) (h2 : SortedIn (ltR w0) m b d) :
    Calls Try.prog 58 #[.slice (some ⟨blk, 0, none⟩) size cap, .int .i64 a, .int .i64 m, .int .i64 b, .func (.func 46) #[] #[]] W (MergeIs w blk a b d) := by
  have mixed : Try.prog.follows .mixedOrders = true := by kernel_rfl
  have HS := Lib.hid S
  have HDS := Lib.hid hds
  have HSZ := Lib.hid (hds.trans hsize)
  have HC := Lib.hid hC
  have H1 := Lib.hid h1
  have H2 := Lib.hid h2
  have IH := Lib.hid ih
  have t1 : (((m : Int) - (a : Int)) == 1) = false := by simp; omega
  have t2 : (((b : Int) - (m : Int)) == 1) = false := by simp; omega
  obtain ⟨mid, hM, hmid⟩ : ∃ mid : Nat, ((a : Int) + (b : Int)) / 2 = (mid : Int) ∧ mid = (a + b) / 2 := ⟨(a + b) / 2, by omega, rfl⟩
  obtain ⟨nn, hN⟩ : ∃ nn : Nat, (mid : Int) + (m : Int) = (nn : Int) := ⟨mid + m, by omega⟩
  obtain ⟨p, hP⟩ : ∃ p : Nat, (nn : Int) - 1 = (p : Int) := ⟨nn - 1, by omega⟩
  obtain ⟨lo, hi, hlh⟩ : ∃ lo hi : Nat, (mid < m ∧ (nn : Int) - (b : Int) = (lo : Int) ∧ hi ≤ mid ∧ mid ≤ hi) ∨ (¬ mid < m ∧ (lo ≤ a ∧ a ≤ lo) ∧ hi ≤ m ∧ m ≤ hi) := by
    by_cases h : mid < m
    · exact ⟨nn - b, mid, .inl ⟨h, by omega, Nat.le_refl _, Nat.le_refl _⟩⟩
    · exact ⟨a, m, .inr ⟨h, ⟨Nat.le_refl _, Nat.le_refl _⟩, Nat.le_refl _, Nat.le_refl _⟩⟩
  have g1 : a ≤ lo := by omega
  have g2 : lo ≤ hi := by omega
  have g3 : hi ≤ m := by omega
  have g4 : hi ≤ mid := by omega
  have g5 : nn ≤ b + lo := by omega
  have g6 : m + hi ≤ nn := by omega
  have g7 : hi = m ∨ m + hi = nn := by omega
  have g8 : lo = a ∨ nn = b + lo := by omega
  have HMID := Lib.hid hmid
  clear S hds hC h1 h2 ih hmid hsize
  rcases hlh with ⟨hm, hlo, hh1, hh2⟩ | ⟨hm, ⟨hh0, hh3⟩, hh1, hh2⟩
  · have hm2 : (mid : Int) < (m : Int) := by omega
    go_enter Try.func58, Try.ntmps58
    go_wp2_with fail
    go_loopw [20, 21] (fun vi vj wr => ∃ (s r : Nat), vi = .int .i64 s ∧ vj = .int .i64 r ∧ lo ≤ s ∧ s ≤ r ∧ r ≤ hi ∧ Hid (SW w0 w blk d wr) ∧ Hid (Found d nn lo hi s r)) (fun vi vj _ => (intOf vj).toNat - (intOf vi).toNat)
    case atStart => exact ⟨lo, mid, rfl, rfl, by omega, by omega, by omega, HS, ⟨fun h => by omega, fun h => by omega⟩⟩
    case round =>
      obtain ⟨s, r, rfl, rfl, hi1, hij, hj1, HW, HF⟩ := hrel
      by_cases hlt : s < r
      · have hlt2 : (s : Int) < (r : Int) := by omega
        obtain ⟨c, hc0, hsc, hcr⟩ : ∃ c : Nat, ((s : Int) + (r : Int)) / 2 = (c : Int) ∧ s ≤ c ∧ c < r := ⟨(s + r) / 2, by omega, by omega, by omega⟩
        obtain ⟨q, hq0, hq1⟩ : ∃ q : Nat, (p : Int) - (c : Int) = (q : Int) ∧ q = nn - 1 - c := ⟨nn - 1 - c, by omega, rfl⟩
        have hq2 : IntKind.i64.wrap (q : Int) = (q : Int) := by rw [IntKind.wrap_i64]; omega
        have hqs : q < size := by omega
        have hcs : c < size := by omega
        have HQ1 := Lib.hid hq1
        obtain ⟨x, hx⟩ : ∃ x, x = d[q]! := ⟨_, rfl⟩
        obtain ⟨y, hy⟩ : ∃ y, y = d[c]! := ⟨_, rfl⟩
        obtain ⟨c0, c1, c2, c3⟩ := sw_atG HW.out R HSZ.out (i := q) (by rw [HDS.out]; exact hqs)
        obtain ⟨e0, e1, e2, e3⟩ := sw_atG HW.out R HSZ.out (i := c) (by rw [HDS.out]; exact hcs)
        rw [← hx] at c0 c1 c2 c3
        rw [← hy] at e0 e1 e2 e3
        have hc := sw_cmp HW.out HC.out HSZ.out x y
        have p1 : (q : Int) < (size : Int) := by omega
        have p2 : (c : Int) < (size : Int) := by omega
        by_cases hv : Rw.cf x y < 0
        · have hd : decide (Rw.cf x y < 0) = true := decide_eq_true hv
          have HF2 := Lib.hid (show Found d nn lo hi s c from ⟨HF.out.1, fun _ => by rw [← hq1, ← hx, ← hy]; exact hd⟩)
          have HV := Lib.hid hv
          clear hx hy HF hv hq1
          go_wp2_with fail
          go_quiet_grown ((go_at_call 46; refine Calls.grown_of (hc _ _)))
          change Exit.then _ _ _ _ (grow (wr.drewN nq) osq)
          have HW2 := Lib.hid (HW.out.grown nq osq)
          generalize grow (wr.drewN nq) osq = w2 at HW2 ⊢
          clear c0 c1 c2 c3 e0 e1 e2 e3 hc HW
          go_wp2_with fail
          go_roundw
          case rel => exact ⟨s, c, rfl, rfl, by omega, by omega, by omega, HW2, HF2⟩
          case measure => simp [intOf]; omega
        · have hd : decide (Rw.cf x y < 0) = false := decide_eq_false hv
          have HF2 := Lib.hid (show Found d nn lo hi (c + 1) r from ⟨fun _ => by rw [show nn - (c + 1) = q by omega, Nat.add_sub_cancel, ← hx, ← hy]; exact hd, HF.out.2⟩)
          clear hx hy HF hv hq1
          go_wp2_with fail
          go_quiet_grown ((go_at_call 46; refine Calls.grown_of (hc _ _)))
          change Exit.then _ _ _ _ (grow (wr.drewN nq) osq)
          have HW2 := Lib.hid (HW.out.grown nq osq)
          generalize grow (wr.drewN nq) osq = w2 at HW2 ⊢
          clear c0 c1 c2 c3 e0 e1 e2 e3 hc HW
          go_wp2_with fail
          go_roundw
          case rel => exact ⟨c + 1, r, by go_num, rfl, by omega, by omega, by omega, HW2, HF2⟩
          case measure => simp [intOf]; omega
      · obtain rfl : s = r := by omega
        have hnlt : ¬ ((s : Int) < (s : Int)) := by omega
        obtain ⟨e, hE⟩ : ∃ e : Nat, (nn : Int) - (s : Int) = (e : Int) := ⟨nn - s, by omega⟩
        have e1 : m ≤ e := by omega
        have e2 : e ≤ b := by omega
        have e3 : s ≤ mid := by omega
        have e4 : mid ≤ e := by omega
        have E5 := Lib.hid (show mid = s + (e - m) by omega)
        have HLO := Lib.hid (show a < s → e < b → ltR w0 d[e]! d[s - 1]! = false from fun h h' => by
          have := HF.out.1 (by omega)
          rwa [show nn - s = e by omega] at this)
        have HHI := Lib.hid (show s < m → m < e → ltR w0 d[e - 1]! d[s]! = true from fun h h' => by
          have := HF.out.2 (by omega)
          rwa [show nn - 1 - s = e - 1 by omega] at this)
        clear HF
        by_cases hrot : s < m ∧ m < e
        · have r1 : (s : Int) < (m : Int) := by omega
          have r2 : (m : Int) < (e : Int) := by omega
          go_wp2_with fail
          refine (rotate_any d s m e size R HSZ.out HW.out HDS.out.symm hrot.1 hrot.2 (by rw [HDS.out]; omega) (by rw [HDS.out]; exact hsz)).mono ?_
          rintro e' w1 ⟨rfl, d1, q1, q2, q3⟩
          have z1 : d1.size = size := q2.1.trans HDS.out
          have S1 := Lib.hid q1
          have R1 := Lib.hid q2
          have P1 := Lib.hid (q3.mono (a' := a) (b' := b) (by omega) (by omega))
          have Z1 := Lib.hid z1
          clear q1 q2 q3 z1 HW
          have hsp := split_rot (swo_rows w0) H1.out H2.out (by omega) (by omega) e1 e2 E5.out HLO.out HHI.out R1.out
          have SP := Lib.hid hsp
          clear hsp
          by_cases hl : a < s ∧ s < mid
          · have r3 : (a : Int) < (s : Int) := by omega
            have r4 : (s : Int) < (mid : Int) := by omega
            go_wp2_with fail
            refine (IH.out d1 _ a s mid Z1.out (by omega) hl.1 hl.2 (by omega) S1.out SP.out.1 SP.out.2.1).mono ?_
            rintro e' w2 ⟨rfl, d2, q1, q2, q3, q4⟩
            have S2 := Lib.hid q1
            have Z2 := Lib.hid (q2.trans Z1.out)
            have P2 := Lib.hid q3
            have L2 := Lib.hid q4
            clear q1 q2 q3 q4
            by_cases hr : mid < e ∧ e < b
            · have r5 : (mid : Int) < (e : Int) := by omega
              have r6 : (e : Int) < (b : Int) := by omega
              have q0 := P2.out a mid (Nat.le_refl _) (Nat.le_refl _) (by rw [Z1.out]; omega)
              have h3 := sorted_out SP.out.2.2.1 q0 (.inr (Nat.le_refl _))
              have h4 := sorted_out SP.out.2.2.2.1 q0 (.inr e4)
              have X3 := Lib.hid h3
              have X4 := Lib.hid h4
              clear q0 h3 h4
              go_wp2_with fail
              refine (IH.out d2 _ mid e b Z2.out (by omega) hr.1 hr.2 (by omega) S2.out X3.out X4.out).mono ?_
              rintro e' w3 ⟨rfl, d3, q1, q2, q3, q4⟩
              have S3 := Lib.hid q1
              have Z3 := Lib.hid (q2.trans Z2.out)
              have P3 := Lib.hid q3
              have L3 := Lib.hid q4
              clear q1 q2 q3 q4
              have hfin := merge_fin (d := d) (b := b) (by omega) (by omega) (by rw [HDS.out]; omega) S3.out (Z1.out.trans HDS.out.symm) (Z2.out.trans HDS.out.symm) (Z3.out.trans HDS.out.symm) P1.out P2.out P3.out SP.out.2.2.2.2 L2.out L3.out
              have HFIN := Lib.hid hfin
              clear hfin
              go_wp2_with fail
              go_end0
              exact HFIN.out
            · obtain ⟨w3, hw3⟩ : ∃ w3, w3 = w2 := ⟨_, rfl⟩
              obtain ⟨d3, hd3⟩ : ∃ d3, d3 = d2 := ⟨_, rfl⟩
              have S3 := Lib.hid (show SW w0 w blk d3 w3 by rw [hw3, hd3]; exact S2.out)
              have Z3 := Lib.hid (show d3.size = size by rw [hd3]; exact Z2.out)
              have P3 := Lib.hid (show PermOut mid b d2 d3 by rw [hd3]; exact permOut_refl _ _ _)
              have q0 := P2.out a mid (Nat.le_refl _) (Nat.le_refl _) (by rw [Z1.out]; omega)
              have L3 := Lib.hid (show SortedIn (ltR w0) mid b d3 by
                rw [hd3]
                have h3 : e = mid ∨ e = b := by omega
                rcases h3 with h3 | h3
                · have := sorted_out SP.out.2.2.2.1 q0 (.inr e4); rwa [h3] at this
                · have := sorted_out SP.out.2.2.1 q0 (.inr (Nat.le_refl _)); rwa [h3] at this)
              rw [← hw3]
              clear hw3 hd3 q0
              have hfin := merge_fin (d := d) (b := b) (by omega) (by omega) (by rw [HDS.out]; omega) S3.out (Z1.out.trans HDS.out.symm) (Z2.out.trans HDS.out.symm) (Z3.out.trans HDS.out.symm) P1.out P2.out P3.out SP.out.2.2.2.2 L2.out L3.out
              have HFIN := Lib.hid hfin
              clear hfin
              rcases (show ¬ mid < e ∨ (mid < e ∧ ¬ e < b) by omega) with kr | kr
              · have ir : ¬ (mid : Int) < (e : Int) := by omega
                go_wp2_with fail
                go_end0
                exact HFIN.out
              · have ir : (mid : Int) < (e : Int) := by omega
                have jr : ¬ (e : Int) < (b : Int) := by omega
                go_wp2_with fail
                go_end0
                exact HFIN.out
          · obtain ⟨w2, hw2⟩ : ∃ w2, w2 = w1 := ⟨_, rfl⟩
            obtain ⟨d2, hd2⟩ : ∃ d2, d2 = d1 := ⟨_, rfl⟩
            have S2 := Lib.hid (show SW w0 w blk d2 w2 by rw [hw2, hd2]; exact S1.out)
            have Z2 := Lib.hid (show d2.size = size by rw [hd2]; exact Z1.out)
            have P2 := Lib.hid (show PermOut a mid d1 d2 by rw [hd2]; exact permOut_refl _ _ _)
            have L2 := Lib.hid (show SortedIn (ltR w0) a mid d2 by
              rw [hd2]
              have h3 : s = a ∨ s = mid := by omega
              rcases h3 with h3 | h3
              · have := SP.out.2.1; rwa [h3] at this
              · have := SP.out.1; rwa [h3] at this)
            rw [← hw2]
            clear hw2 hd2
            rcases (show ¬ a < s ∨ (a < s ∧ ¬ s < mid) by omega) with kl | kl
            · have il : ¬ (a : Int) < (s : Int) := by omega
              by_cases hr : mid < e ∧ e < b
              · have r5 : (mid : Int) < (e : Int) := by omega
                have r6 : (e : Int) < (b : Int) := by omega
                have q0 := P2.out a mid (Nat.le_refl _) (Nat.le_refl _) (by rw [Z1.out]; omega)
                have h3 := sorted_out SP.out.2.2.1 q0 (.inr (Nat.le_refl _))
                have h4 := sorted_out SP.out.2.2.2.1 q0 (.inr e4)
                have X3 := Lib.hid h3
                have X4 := Lib.hid h4
                clear q0 h3 h4
                go_wp2_with fail
                refine (IH.out d2 _ mid e b Z2.out (by omega) hr.1 hr.2 (by omega) S2.out X3.out X4.out).mono ?_
                rintro e' w3 ⟨rfl, d3, q1, q2, q3, q4⟩
                have S3 := Lib.hid q1
                have Z3 := Lib.hid (q2.trans Z2.out)
                have P3 := Lib.hid q3
                have L3 := Lib.hid q4
                clear q1 q2 q3 q4
                have hfin := merge_fin (d := d) (b := b) (by omega) (by omega) (by rw [HDS.out]; omega) S3.out (Z1.out.trans HDS.out.symm) (Z2.out.trans HDS.out.symm) (Z3.out.trans HDS.out.symm) P1.out P2.out P3.out SP.out.2.2.2.2 L2.out L3.out
                have HFIN := Lib.hid hfin
                clear hfin
                go_wp2_with fail
                go_end0
                exact HFIN.out
              · obtain ⟨w3, hw3⟩ : ∃ w3, w3 = w2 := ⟨_, rfl⟩
                obtain ⟨d3, hd3⟩ : ∃ d3, d3 = d2 := ⟨_, rfl⟩
                have S3 := Lib.hid (show SW w0 w blk d3 w3 by rw [hw3, hd3]; exact S2.out)
                have Z3 := Lib.hid (show d3.size = size by rw [hd3]; exact Z2.out)
                have P3 := Lib.hid (show PermOut mid b d2 d3 by rw [hd3]; exact permOut_refl _ _ _)
                have q0 := P2.out a mid (Nat.le_refl _) (Nat.le_refl _) (by rw [Z1.out]; omega)
                have L3 := Lib.hid (show SortedIn (ltR w0) mid b d3 by
                  rw [hd3]
                  have h3 : e = mid ∨ e = b := by omega
                  rcases h3 with h3 | h3
                  · have := sorted_out SP.out.2.2.2.1 q0 (.inr e4); rwa [h3] at this
                  · have := sorted_out SP.out.2.2.1 q0 (.inr (Nat.le_refl _)); rwa [h3] at this)
                rw [← hw3]
                clear hw3 hd3 q0
                have hfin := merge_fin (d := d) (b := b) (by omega) (by omega) (by rw [HDS.out]; omega) S3.out (Z1.out.trans HDS.out.symm) (Z2.out.trans HDS.out.symm) (Z3.out.trans HDS.out.symm) P1.out P2.out P3.out SP.out.2.2.2.2 L2.out L3.out
                have HFIN := Lib.hid hfin
                clear hfin
                rcases (show ¬ mid < e ∨ (mid < e ∧ ¬ e < b) by omega) with kr | kr
                · have ir : ¬ (mid : Int) < (e : Int) := by omega
                  go_wp2_with fail
                  go_end0
                  exact HFIN.out
                · have ir : (mid : Int) < (e : Int) := by omega
                  have jr : ¬ (e : Int) < (b : Int) := by omega
                  go_wp2_with fail
                  go_end0
                  exact HFIN.out
            · have il : (a : Int) < (s : Int) := by omega
              have jl : ¬ (s : Int) < (mid : Int) := by omega
              by_cases hr : mid < e ∧ e < b
              · have r5 : (mid : Int) < (e : Int) := by omega
                have r6 : (e : Int) < (b : Int) := by omega
                have q0 := P2.out a mid (Nat.le_refl _) (Nat.le_refl _) (by rw [Z1.out]; omega)
                have h3 := sorted_out SP.out.2.2.1 q0 (.inr (Nat.le_refl _))
                have h4 := sorted_out SP.out.2.2.2.1 q0 (.inr e4)
                have X3 := Lib.hid h3
                have X4 := Lib.hid h4
                clear q0 h3 h4
                go_wp2_with fail
                refine (IH.out d2 _ mid e b Z2.out (by omega) hr.1 hr.2 (by omega) S2.out X3.out X4.out).mono ?_
                rintro e' w3 ⟨rfl, d3, q1, q2, q3, q4⟩
                have S3 := Lib.hid q1
                have Z3 := Lib.hid (q2.trans Z2.out)
                have P3 := Lib.hid q3
                have L3 := Lib.hid q4
                clear q1 q2 q3 q4
                have hfin := merge_fin (d := d) (b := b) (by omega) (by omega) (by rw [HDS.out]; omega) S3.out (Z1.out.trans HDS.out.symm) (Z2.out.trans HDS.out.symm) (Z3.out.trans HDS.out.symm) P1.out P2.out P3.out SP.out.2.2.2.2 L2.out L3.out
                have HFIN := Lib.hid hfin
                clear hfin
                go_wp2_with fail
                go_end0
                exact HFIN.out
              · obtain ⟨w3, hw3⟩ : ∃ w3, w3 = w2 := ⟨_, rfl⟩
                obtain ⟨d3, hd3⟩ : ∃ d3, d3 = d2 := ⟨_, rfl⟩
                have S3 := Lib.hid (show SW w0 w blk d3 w3 by rw [hw3, hd3]; exact S2.out)
                have Z3 := Lib.hid (show d3.size = size by rw [hd3]; exact Z2.out)
                have P3 := Lib.hid (show PermOut mid b d2 d3 by rw [hd3]; exact permOut_refl _ _ _)
                have q0 := P2.out a mid (Nat.le_refl _) (Nat.le_refl _) (by rw [Z1.out]; omega)
                have L3 := Lib.hid (show SortedIn (ltR w0) mid b d3 by
                  rw [hd3]
                  have h3 : e = mid ∨ e = b := by omega
                  rcases h3 with h3 | h3
                  · have := sorted_out SP.out.2.2.2.1 q0 (.inr e4); rwa [h3] at this
                  · have := sorted_out SP.out.2.2.1 q0 (.inr (Nat.le_refl _)); rwa [h3] at this)
                rw [← hw3]
                clear hw3 hd3 q0
                have hfin := merge_fin (d := d) (b := b) (by omega) (by omega) (by rw [HDS.out]; omega) S3.out (Z1.out.trans HDS.out.symm) (Z2.out.trans HDS.out.symm) (Z3.out.trans HDS.out.symm) P1.out P2.out P3.out SP.out.2.2.2.2 L2.out L3.out
                have HFIN := Lib.hid hfin
                clear hfin
                rcases (show ¬ mid < e ∨ (mid < e ∧ ¬ e < b) by omega) with kr | kr
                · have ir : ¬ (mid : Int) < (e : Int) := by omega
                  go_wp2_with fail
                  go_end0
                  exact HFIN.out
                · have ir : (mid : Int) < (e : Int) := by omega
                  have jr : ¬ (e : Int) < (b : Int) := by omega
                  go_wp2_with fail
                  go_end0
                  exact HFIN.out
        · obtain ⟨w1, hw1⟩ : ∃ w1, w1 = wr := ⟨_, rfl⟩
          obtain ⟨d1, hd1⟩ : ∃ d1, d1 = d := ⟨_, rfl⟩
          have S1 := Lib.hid (show SW w0 w blk d1 w1 by rw [hw1, hd1]; exact HW.out)
          have R1 := Lib.hid (show Rot d d1 s m e by rw [hd1]; exact rot_none d (by omega) e1 hrot)
          have P1 := Lib.hid (show PermOut a b d d1 by rw [hd1]; exact permOut_refl _ _ _)
          have Z1 := Lib.hid (show d1.size = size by rw [hd1]; exact HDS.out)
          rw [← hw1]
          clear hw1 hd1 HW
          have hsp := split_rot (swo_rows w0) H1.out H2.out (by omega) (by omega) e1 e2 E5.out HLO.out HHI.out R1.out
          have SP := Lib.hid hsp
          clear hsp
          rcases (show ¬ s < m ∨ (s < m ∧ ¬ m < e) by omega) with krot | krot
          · have irot : ¬ (s : Int) < (m : Int) := by omega
            by_cases hl : a < s ∧ s < mid
            · have r3 : (a : Int) < (s : Int) := by omega
              have r4 : (s : Int) < (mid : Int) := by omega
              go_wp2_with fail
              refine (IH.out d1 _ a s mid Z1.out (by omega) hl.1 hl.2 (by omega) S1.out SP.out.1 SP.out.2.1).mono ?_
              rintro e' w2 ⟨rfl, d2, q1, q2, q3, q4⟩
              have S2 := Lib.hid q1
              have Z2 := Lib.hid (q2.trans Z1.out)
              have P2 := Lib.hid q3
              have L2 := Lib.hid q4
              clear q1 q2 q3 q4
              by_cases hr : mid < e ∧ e < b
              · have r5 : (mid : Int) < (e : Int) := by omega
                have r6 : (e : Int) < (b : Int) := by omega
                have q0 := P2.out a mid (Nat.le_refl _) (Nat.le_refl _) (by rw [Z1.out]; omega)
                have h3 := sorted_out SP.out.2.2.1 q0 (.inr (Nat.le_refl _))
                have h4 := sorted_out SP.out.2.2.2.1 q0 (.inr e4)
                have X3 := Lib.hid h3
                have X4 := Lib.hid h4
                clear q0 h3 h4
                go_wp2_with fail
                refine (IH.out d2 _ mid e b Z2.out (by omega) hr.1 hr.2 (by omega) S2.out X3.out X4.out).mono ?_
                rintro e' w3 ⟨rfl, d3, q1, q2, q3, q4⟩
                have S3 := Lib.hid q1
                have Z3 := Lib.hid (q2.trans Z2.out)
                have P3 := Lib.hid q3
                have L3 := Lib.hid q4
                clear q1 q2 q3 q4
                have hfin := merge_fin (d := d) (b := b) (by omega) (by omega) (by rw [HDS.out]; omega) S3.out (Z1.out.trans HDS.out.symm) (Z2.out.trans HDS.out.symm) (Z3.out.trans HDS.out.symm) P1.out P2.out P3.out SP.out.2.2.2.2 L2.out L3.out
                have HFIN := Lib.hid hfin
                clear hfin
                go_wp2_with fail
                go_end0
                exact HFIN.out
              · obtain ⟨w3, hw3⟩ : ∃ w3, w3 = w2 := ⟨_, rfl⟩
                obtain ⟨d3, hd3⟩ : ∃ d3, d3 = d2 := ⟨_, rfl⟩
                have S3 := Lib.hid (show SW w0 w blk d3 w3 by rw [hw3, hd3]; exact S2.out)
                have Z3 := Lib.hid (show d3.size = size by rw [hd3]; exact Z2.out)
                have P3 := Lib.hid (show PermOut mid b d2 d3 by rw [hd3]; exact permOut_refl _ _ _)
                have q0 := P2.out a mid (Nat.le_refl _) (Nat.le_refl _) (by rw [Z1.out]; omega)
                have L3 := Lib.hid (show SortedIn (ltR w0) mid b d3 by
                  rw [hd3]
                  have h3 : e = mid ∨ e = b := by omega
                  rcases h3 with h3 | h3
                  · have := sorted_out SP.out.2.2.2.1 q0 (.inr e4); rwa [h3] at this
                  · have := sorted_out SP.out.2.2.1 q0 (.inr (Nat.le_refl _)); rwa [h3] at this)
                rw [← hw3]
                clear hw3 hd3 q0
                have hfin := merge_fin (d := d) (b := b) (by omega) (by omega) (by rw [HDS.out]; omega) S3.out (Z1.out.trans HDS.out.symm) (Z2.out.trans HDS.out.symm) (Z3.out.trans HDS.out.symm) P1.out P2.out P3.out SP.out.2.2.2.2 L2.out L3.out
                have HFIN := Lib.hid hfin
                clear hfin
                rcases (show ¬ mid < e ∨ (mid < e ∧ ¬ e < b) by omega) with kr | kr
                · have ir : ¬ (mid : Int) < (e : Int) := by omega
                  go_wp2_with fail
                  go_end0
                  exact HFIN.out
                · have ir : (mid : Int) < (e : Int) := by omega
                  have jr : ¬ (e : Int) < (b : Int) := by omega
                  go_wp2_with fail
                  go_end0
                  exact HFIN.out
            · obtain ⟨w2, hw2⟩ : ∃ w2, w2 = w1 := ⟨_, rfl⟩
              obtain ⟨d2, hd2⟩ : ∃ d2, d2 = d1 := ⟨_, rfl⟩
              have S2 := Lib.hid (show SW w0 w blk d2 w2 by rw [hw2, hd2]; exact S1.out)
              have Z2 := Lib.hid (show d2.size = size by rw [hd2]; exact Z1.out)
              have P2 := Lib.hid (show PermOut a mid d1 d2 by rw [hd2]; exact permOut_refl _ _ _)
              have L2 := Lib.hid (show SortedIn (ltR w0) a mid d2 by
                rw [hd2]
                have h3 : s = a ∨ s = mid := by omega
                rcases h3 with h3 | h3
                · have := SP.out.2.1; rwa [h3] at this
                · have := SP.out.1; rwa [h3] at this)
              rw [← hw2]
              clear hw2 hd2
              rcases (show ¬ a < s ∨ (a < s ∧ ¬ s < mid) by omega) with kl | kl
              · have il : ¬ (a : Int) < (s : Int) := by omega
                by_cases hr : mid < e ∧ e < b
                · have r5 : (mid : Int) < (e : Int) := by omega
                  have r6 : (e : Int) < (b : Int) := by omega
                  have q0 := P2.out a mid (Nat.le_refl _) (Nat.le_refl _) (by rw [Z1.out]; omega)
                  have h3 := sorted_out SP.out.2.2.1 q0 (.inr (Nat.le_refl _))
                  have h4 := sorted_out SP.out.2.2.2.1 q0 (.inr e4)
                  have X3 := Lib.hid h3
                  have X4 := Lib.hid h4
                  clear q0 h3 h4
                  go_wp2_with fail
                  refine (IH.out d2 _ mid e b Z2.out (by omega) hr.1 hr.2 (by omega) S2.out X3.out X4.out).mono ?_
                  rintro e' w3 ⟨rfl, d3, q1, q2, q3, q4⟩
                  have S3 := Lib.hid q1
                  have Z3 := Lib.hid (q2.trans Z2.out)
                  have P3 := Lib.hid q3
                  have L3 := Lib.hid q4
                  clear q1 q2 q3 q4
                  have hfin := merge_fin (d := d) (b := b) (by omega) (by omega) (by rw [HDS.out]; omega) S3.out (Z1.out.trans HDS.out.symm) (Z2.out.trans HDS.out.symm) (Z3.out.trans HDS.out.symm) P1.out P2.out P3.out SP.out.2.2.2.2 L2.out L3.out
                  have HFIN := Lib.hid hfin
                  clear hfin
                  go_wp2_with fail
                  go_end0
                  exact HFIN.out
                · obtain ⟨w3, hw3⟩ : ∃ w3, w3 = w2 := ⟨_, rfl⟩
                  obtain ⟨d3, hd3⟩ : ∃ d3, d3 = d2 := ⟨_, rfl⟩
                  have S3 := Lib.hid (show SW w0 w blk d3 w3 by rw [hw3, hd3]; exact S2.out)
                  have Z3 := Lib.hid (show d3.size = size by rw [hd3]; exact Z2.out)
                  have P3 := Lib.hid (show PermOut mid b d2 d3 by rw [hd3]; exact permOut_refl _ _ _)
                  have q0 := P2.out a mid (Nat.le_refl _) (Nat.le_refl _) (by rw [Z1.out]; omega)
                  have L3 := Lib.hid (show SortedIn (ltR w0) mid b d3 by
                    rw [hd3]
                    have h3 : e = mid ∨ e = b := by omega
                    rcases h3 with h3 | h3
                    · have := sorted_out SP.out.2.2.2.1 q0 (.inr e4); rwa [h3] at this
                    · have := sorted_out SP.out.2.2.1 q0 (.inr (Nat.le_refl _)); rwa [h3] at this)
                  rw [← hw3]
                  clear hw3 hd3 q0
                  have hfin := merge_fin (d := d) (b := b) (by omega) (by omega) (by rw [HDS.out]; omega) S3.out (Z1.out.trans HDS.out.symm) (Z2.out.trans HDS.out.symm) (Z3.out.trans HDS.out.symm) P1.out P2.out P3.out SP.out.2.2.2.2 L2.out L3.out
                  have HFIN := Lib.hid hfin
                  clear hfin
                  rcases (show ¬ mid < e ∨ (mid < e ∧ ¬ e < b) by omega) with kr | kr
                  · have ir : ¬ (mid : Int) < (e : Int) := by omega
                    go_wp2_with fail
                    go_end0
                    exact HFIN.out
                  · have ir : (mid : Int) < (e : Int) := by omega
                    have jr : ¬ (e : Int) < (b : Int) := by omega
                    go_wp2_with fail
                    go_end0
                    exact HFIN.out
              · have il : (a : Int) < (s : Int) := by omega
                have jl : ¬ (s : Int) < (mid : Int) := by omega
                by_cases hr : mid < e ∧ e < b
                · have r5 : (mid : Int) < (e : Int) := by omega
                  have r6 : (e : Int) < (b : Int) := by omega
                  have q0 := P2.out a mid (Nat.le_refl _) (Nat.le_refl _) (by rw [Z1.out]; omega)
                  have h3 := sorted_out SP.out.2.2.1 q0 (.inr (Nat.le_refl _))
                  have h4 := sorted_out SP.out.2.2.2.1 q0 (.inr e4)
                  have X3 := Lib.hid h3
                  have X4 := Lib.hid h4
                  clear q0 h3 h4
                  go_wp2_with fail
                  refine (IH.out d2 _ mid e b Z2.out (by omega) hr.1 hr.2 (by omega) S2.out X3.out X4.out).mono ?_
                  rintro e' w3 ⟨rfl, d3, q1, q2, q3, q4⟩
                  have S3 := Lib.hid q1
                  have Z3 := Lib.hid (q2.trans Z2.out)
                  have P3 := Lib.hid q3
                  have L3 := Lib.hid q4
                  clear q1 q2 q3 q4
                  have hfin := merge_fin (d := d) (b := b) (by omega) (by omega) (by rw [HDS.out]; omega) S3.out (Z1.out.trans HDS.out.symm) (Z2.out.trans HDS.out.symm) (Z3.out.trans HDS.out.symm) P1.out P2.out P3.out SP.out.2.2.2.2 L2.out L3.out
                  have HFIN := Lib.hid hfin
                  clear hfin
                  go_wp2_with fail
                  go_end0
                  exact HFIN.out
                · obtain ⟨w3, hw3⟩ : ∃ w3, w3 = w2 := ⟨_, rfl⟩
                  obtain ⟨d3, hd3⟩ : ∃ d3, d3 = d2 := ⟨_, rfl⟩
                  have S3 := Lib.hid (show SW w0 w blk d3 w3 by rw [hw3, hd3]; exact S2.out)
                  have Z3 := Lib.hid (show d3.size = size by rw [hd3]; exact Z2.out)
                  have P3 := Lib.hid (show PermOut mid b d2 d3 by rw [hd3]; exact permOut_refl _ _ _)
                  have q0 := P2.out a mid (Nat.le_refl _) (Nat.le_refl _) (by rw [Z1.out]; omega)
                  have L3 := Lib.hid (show SortedIn (ltR w0) mid b d3 by
                    rw [hd3]
                    have h3 : e = mid ∨ e = b := by omega
                    rcases h3 with h3 | h3
                    · have := sorted_out SP.out.2.2.2.1 q0 (.inr e4); rwa [h3] at this
                    · have := sorted_out SP.out.2.2.1 q0 (.inr (Nat.le_refl _)); rwa [h3] at this)
                  rw [← hw3]
                  clear hw3 hd3 q0
                  have hfin := merge_fin (d := d) (b := b) (by omega) (by omega) (by rw [HDS.out]; omega) S3.out (Z1.out.trans HDS.out.symm) (Z2.out.trans HDS.out.symm) (Z3.out.trans HDS.out.symm) P1.out P2.out P3.out SP.out.2.2.2.2 L2.out L3.out
                  have HFIN := Lib.hid hfin
                  clear hfin
                  rcases (show ¬ mid < e ∨ (mid < e ∧ ¬ e < b) by omega) with kr | kr
                  · have ir : ¬ (mid : Int) < (e : Int) := by omega
                    go_wp2_with fail
                    go_end0
                    exact HFIN.out
                  · have ir : (mid : Int) < (e : Int) := by omega
                    have jr : ¬ (e : Int) < (b : Int) := by omega
                    go_wp2_with fail
                    go_end0
                    exact HFIN.out
          · have irot : (s : Int) < (m : Int) := by omega
            have jrot : ¬ (m : Int) < (e : Int) := by omega
            by_cases hl : a < s ∧ s < mid
            · have r3 : (a : Int) < (s : Int) := by omega
              have r4 : (s : Int) < (mid : Int) := by omega
              go_wp2_with fail
              refine (IH.out d1 _ a s mid Z1.out (by omega) hl.1 hl.2 (by omega) S1.out SP.out.1 SP.out.2.1).mono ?_
              rintro e' w2 ⟨rfl, d2, q1, q2, q3, q4⟩
              have S2 := Lib.hid q1
              have Z2 := Lib.hid (q2.trans Z1.out)
              have P2 := Lib.hid q3
              have L2 := Lib.hid q4
              clear q1 q2 q3 q4
              by_cases hr : mid < e ∧ e < b
              · have r5 : (mid : Int) < (e : Int) := by omega
                have r6 : (e : Int) < (b : Int) := by omega
                have q0 := P2.out a mid (Nat.le_refl _) (Nat.le_refl _) (by rw [Z1.out]; omega)
                have h3 := sorted_out SP.out.2.2.1 q0 (.inr (Nat.le_refl _))
                have h4 := sorted_out SP.out.2.2.2.1 q0 (.inr e4)
                have X3 := Lib.hid h3
                have X4 := Lib.hid h4
                clear q0 h3 h4
                go_wp2_with fail
                refine (IH.out d2 _ mid e b Z2.out (by omega) hr.1 hr.2 (by omega) S2.out X3.out X4.out).mono ?_
                rintro e' w3 ⟨rfl, d3, q1, q2, q3, q4⟩
                have S3 := Lib.hid q1
                have Z3 := Lib.hid (q2.trans Z2.out)
                have P3 := Lib.hid q3
                have L3 := Lib.hid q4
                clear q1 q2 q3 q4
                have hfin := merge_fin (d := d) (b := b) (by omega) (by omega) (by rw [HDS.out]; omega) S3.out (Z1.out.trans HDS.out.symm) (Z2.out.trans HDS.out.symm) (Z3.out.trans HDS.out.symm) P1.out P2.out P3.out SP.out.2.2.2.2 L2.out L3.out
                have HFIN := Lib.hid hfin
                clear hfin
                go_wp2_with fail
                go_end0
                exact HFIN.out
              · obtain ⟨w3, hw3⟩ : ∃ w3, w3 = w2 := ⟨_, rfl⟩
                obtain ⟨d3, hd3⟩ : ∃ d3, d3 = d2 := ⟨_, rfl⟩
                have S3 := Lib.hid (show SW w0 w blk d3 w3 by rw [hw3, hd3]; exact S2.out)
                have Z3 := Lib.hid (show d3.size = size by rw [hd3]; exact Z2.out)
                have P3 := Lib.hid (show PermOut mid b d2 d3 by rw [hd3]; exact permOut_refl _ _ _)
                have q0 := P2.out a mid (Nat.le_refl _) (Nat.le_refl _) (by rw [Z1.out]; omega)
                have L3 := Lib.hid (show SortedIn (ltR w0) mid b d3 by
                  rw [hd3]
                  have h3 : e = mid ∨ e = b := by omega
                  rcases h3 with h3 | h3
                  · have := sorted_out SP.out.2.2.2.1 q0 (.inr e4); rwa [h3] at this
                  · have := sorted_out SP.out.2.2.1 q0 (.inr (Nat.le_refl _)); rwa [h3] at this)
                rw [← hw3]
                clear hw3 hd3 q0
                have hfin := merge_fin (d := d) (b := b) (by omega) (by omega) (by rw [HDS.out]; omega) S3.out (Z1.out.trans HDS.out.symm) (Z2.out.trans HDS.out.symm) (Z3.out.trans HDS.out.symm) P1.out P2.out P3.out SP.out.2.2.2.2 L2.out L3.out
                have HFIN := Lib.hid hfin
                clear hfin
                rcases (show ¬ mid < e ∨ (mid < e ∧ ¬ e < b) by omega) with kr | kr
                · have ir : ¬ (mid : Int) < (e : Int) := by omega
                  go_wp2_with fail
                  go_end0
                  exact HFIN.out
                · have ir : (mid : Int) < (e : Int) := by omega
                  have jr : ¬ (e : Int) < (b : Int) := by omega
                  go_wp2_with fail
                  go_end0
                  exact HFIN.out
            · obtain ⟨w2, hw2⟩ : ∃ w2, w2 = w1 := ⟨_, rfl⟩
              obtain ⟨d2, hd2⟩ : ∃ d2, d2 = d1 := ⟨_, rfl⟩
              have S2 := Lib.hid (show SW w0 w blk d2 w2 by rw [hw2, hd2]; exact S1.out)
              have Z2 := Lib.hid (show d2.size = size by rw [hd2]; exact Z1.out)
              have P2 := Lib.hid (show PermOut a mid d1 d2 by rw [hd2]; exact permOut_refl _ _ _)
              have L2 := Lib.hid (show SortedIn (ltR w0) a mid d2 by
                rw [hd2]
                have h3 : s = a ∨ s = mid := by omega
                rcases h3 with h3 | h3
                · have := SP.out.2.1; rwa [h3] at this
                · have := SP.out.1; rwa [h3] at this)
              rw [← hw2]
              clear hw2 hd2
              rcases (show ¬ a < s ∨ (a < s ∧ ¬ s < mid) by omega) with kl | kl
              · have il : ¬ (a : Int) < (s : Int) := by omega
                by_cases hr : mid < e ∧ e < b
                · have r5 : (mid : Int) < (e : Int) := by omega
                  have r6 : (e : Int) < (b : Int) := by omega
                  have q0 := P2.out a mid (Nat.le_refl _) (Nat.le_refl _) (by rw [Z1.out]; omega)
                  have h3 := sorted_out SP.out.2.2.1 q0 (.inr (Nat.le_refl _))
                  have h4 := sorted_out SP.out.2.2.2.1 q0 (.inr e4)
                  have X3 := Lib.hid h3
                  have X4 := Lib.hid h4
                  clear q0 h3 h4
                  go_wp2_with fail
                  refine (IH.out d2 _ mid e b Z2.out (by omega) hr.1 hr.2 (by omega) S2.out X3.out X4.out).mono ?_
                  rintro e' w3 ⟨rfl, d3, q1, q2, q3, q4⟩
                  have S3 := Lib.hid q1
                  have Z3 := Lib.hid (q2.trans Z2.out)
                  have P3 := Lib.hid q3
                  have L3 := Lib.hid q4
                  clear q1 q2 q3 q4
                  have hfin := merge_fin (d := d) (b := b) (by omega) (by omega) (by rw [HDS.out]; omega) S3.out (Z1.out.trans HDS.out.symm) (Z2.out.trans HDS.out.symm) (Z3.out.trans HDS.out.symm) P1.out P2.out P3.out SP.out.2.2.2.2 L2.out L3.out
                  have HFIN := Lib.hid hfin
                  clear hfin
                  go_wp2_with fail
                  go_end0
                  exact HFIN.out
                · obtain ⟨w3, hw3⟩ : ∃ w3, w3 = w2 := ⟨_, rfl⟩
                  obtain ⟨d3, hd3⟩ : ∃ d3, d3 = d2 := ⟨_, rfl⟩
                  have S3 := Lib.hid (show SW w0 w blk d3 w3 by rw [hw3, hd3]; exact S2.out)
                  have Z3 := Lib.hid (show d3.size = size by rw [hd3]; exact Z2.out)
                  have P3 := Lib.hid (show PermOut mid b d2 d3 by rw [hd3]; exact permOut_refl _ _ _)
                  have q0 := P2.out a mid (Nat.le_refl _) (Nat.le_refl _) (by rw [Z1.out]; omega)
                  have L3 := Lib.hid (show SortedIn (ltR w0) mid b d3 by
                    rw [hd3]
                    have h3 : e = mid ∨ e = b := by omega
                    rcases h3 with h3 | h3
                    · have := sorted_out SP.out.2.2.2.1 q0 (.inr e4); rwa [h3] at this
                    · have := sorted_out SP.out.2.2.1 q0 (.inr (Nat.le_refl _)); rwa [h3] at this)
                  rw [← hw3]
                  clear hw3 hd3 q0
                  have hfin := merge_fin (d := d) (b := b) (by omega) (by omega) (by rw [HDS.out]; omega) S3.out (Z1.out.trans HDS.out.symm) (Z2.out.trans HDS.out.symm) (Z3.out.trans HDS.out.symm) P1.out P2.out P3.out SP.out.2.2.2.2 L2.out L3.out
                  have HFIN := Lib.hid hfin
                  clear hfin
                  rcases (show ¬ mid < e ∨ (mid < e ∧ ¬ e < b) by omega) with kr | kr
                  · have ir : ¬ (mid : Int) < (e : Int) := by omega
                    go_wp2_with fail
                    go_end0
                    exact HFIN.out
                  · have ir : (mid : Int) < (e : Int) := by omega
                    have jr : ¬ (e : Int) < (b : Int) := by omega
                    go_wp2_with fail
                    go_end0
                    exact HFIN.out
              · have il : (a : Int) < (s : Int) := by omega
                have jl : ¬ (s : Int) < (mid : Int) := by omega
                by_cases hr : mid < e ∧ e < b
                · have r5 : (mid : Int) < (e : Int) := by omega
                  have r6 : (e : Int) < (b : Int) := by omega
                  have q0 := P2.out a mid (Nat.le_refl _) (Nat.le_refl _) (by rw [Z1.out]; omega)
                  have h3 := sorted_out SP.out.2.2.1 q0 (.inr (Nat.le_refl _))
                  have h4 := sorted_out SP.out.2.2.2.1 q0 (.inr e4)
                  have X3 := Lib.hid h3
                  have X4 := Lib.hid h4
                  clear q0 h3 h4
                  go_wp2_with fail
                  refine (IH.out d2 _ mid e b Z2.out (by omega) hr.1 hr.2 (by omega) S2.out X3.out X4.out).mono ?_
                  rintro e' w3 ⟨rfl, d3, q1, q2, q3, q4⟩
                  have S3 := Lib.hid q1
                  have Z3 := Lib.hid (q2.trans Z2.out)
                  have P3 := Lib.hid q3
                  have L3 := Lib.hid q4
                  clear q1 q2 q3 q4
                  have hfin := merge_fin (d := d) (b := b) (by omega) (by omega) (by rw [HDS.out]; omega) S3.out (Z1.out.trans HDS.out.symm) (Z2.out.trans HDS.out.symm) (Z3.out.trans HDS.out.symm) P1.out P2.out P3.out SP.out.2.2.2.2 L2.out L3.out
                  have HFIN := Lib.hid hfin
                  clear hfin
                  go_wp2_with fail
                  go_end0
                  exact HFIN.out
                · obtain ⟨w3, hw3⟩ : ∃ w3, w3 = w2 := ⟨_, rfl⟩
                  obtain ⟨d3, hd3⟩ : ∃ d3, d3 = d2 := ⟨_, rfl⟩
                  have S3 := Lib.hid (show SW w0 w blk d3 w3 by rw [hw3, hd3]; exact S2.out)
                  have Z3 := Lib.hid (show d3.size = size by rw [hd3]; exact Z2.out)
                  have P3 := Lib.hid (show PermOut mid b d2 d3 by rw [hd3]; exact permOut_refl _ _ _)
                  have q0 := P2.out a mid (Nat.le_refl _) (Nat.le_refl _) (by rw [Z1.out]; omega)
                  have L3 := Lib.hid (show SortedIn (ltR w0) mid b d3 by
                    rw [hd3]
                    have h3 : e = mid ∨ e = b := by omega
                    rcases h3 with h3 | h3
                    · have := sorted_out SP.out.2.2.2.1 q0 (.inr e4); rwa [h3] at this
                    · have := sorted_out SP.out.2.2.1 q0 (.inr (Nat.le_refl _)); rwa [h3] at this)
                  rw [← hw3]
                  clear hw3 hd3 q0
                  have hfin := merge_fin (d := d) (b := b) (by omega) (by omega) (by rw [HDS.out]; omega) S3.out (Z1.out.trans HDS.out.symm) (Z2.out.trans HDS.out.symm) (Z3.out.trans HDS.out.symm) P1.out P2.out P3.out SP.out.2.2.2.2 L2.out L3.out
                  have HFIN := Lib.hid hfin
                  clear hfin
                  rcases (show ¬ mid < e ∨ (mid < e ∧ ¬ e < b) by omega) with kr | kr
                  · have ir : ¬ (mid : Int) < (e : Int) := by omega
                    go_wp2_with fail
                    go_end0
                    exact HFIN.out
                  · have ir : (mid : Int) < (e : Int) := by omega
                    have jr : ¬ (e : Int) < (b : Int) := by omega
                    go_wp2_with fail
                    go_end0
                    exact HFIN.out
  · have hm2 : ¬ (mid : Int) < (m : Int) := by omega
    go_enter Try.func58, Try.ntmps58
    go_wp2_with fail
    go_loopw [20, 21] (fun vi vj wr => ∃ (s r : Nat), vi = .int .i64 s ∧ vj = .int .i64 r ∧ lo ≤ s ∧ s ≤ r ∧ r ≤ hi ∧ Hid (SW w0 w blk d wr) ∧ Hid (Found d nn lo hi s r)) (fun vi vj _ => (intOf vj).toNat - (intOf vi).toNat)
    case atStart => exact ⟨a, m, rfl, rfl, by omega, by omega, by omega, HS, ⟨fun h => by omega, fun h => by omega⟩⟩
    case round =>
      obtain ⟨s, r, rfl, rfl, hi1, hij, hj1, HW, HF⟩ := hrel
      by_cases hlt : s < r
      · have hlt2 : (s : Int) < (r : Int) := by omega
        obtain ⟨c, hc0, hsc, hcr⟩ : ∃ c : Nat, ((s : Int) + (r : Int)) / 2 = (c : Int) ∧ s ≤ c ∧ c < r := ⟨(s + r) / 2, by omega, by omega, by omega⟩
        obtain ⟨q, hq0, hq1⟩ : ∃ q : Nat, (p : Int) - (c : Int) = (q : Int) ∧ q = nn - 1 - c := ⟨nn - 1 - c, by omega, rfl⟩
        have hq2 : IntKind.i64.wrap (q : Int) = (q : Int) := by rw [IntKind.wrap_i64]; omega
        have hqs : q < size := by omega
        have hcs : c < size := by omega
        have HQ1 := Lib.hid hq1
        obtain ⟨x, hx⟩ : ∃ x, x = d[q]! := ⟨_, rfl⟩
        obtain ⟨y, hy⟩ : ∃ y, y = d[c]! := ⟨_, rfl⟩
        obtain ⟨c0, c1, c2, c3⟩ := sw_atG HW.out R HSZ.out (i := q) (by rw [HDS.out]; exact hqs)
        obtain ⟨e0, e1, e2, e3⟩ := sw_atG HW.out R HSZ.out (i := c) (by rw [HDS.out]; exact hcs)
        rw [← hx] at c0 c1 c2 c3
        rw [← hy] at e0 e1 e2 e3
        have hc := sw_cmp HW.out HC.out HSZ.out x y
        have p1 : (q : Int) < (size : Int) := by omega
        have p2 : (c : Int) < (size : Int) := by omega
        by_cases hv : Rw.cf x y < 0
        · have hd : decide (Rw.cf x y < 0) = true := decide_eq_true hv
          have HF2 := Lib.hid (show Found d nn lo hi s c from ⟨HF.out.1, fun _ => by rw [← hq1, ← hx, ← hy]; exact hd⟩)
          have HV := Lib.hid hv
          clear hx hy HF hv hq1
          go_wp2_with fail
          go_quiet_grown ((go_at_call 46; refine Calls.grown_of (hc _ _)))
          change Exit.then _ _ _ _ (grow (wr.drewN nq) osq)
          have HW2 := Lib.hid (HW.out.grown nq osq)
          generalize grow (wr.drewN nq) osq = w2 at HW2 ⊢
          clear c0 c1 c2 c3 e0 e1 e2 e3 hc HW
          go_wp2_with fail
          go_roundw
          case rel => exact ⟨s, c, rfl, rfl, by omega, by omega, by omega, HW2, HF2⟩
          case measure => simp [intOf]; omega
        · have hd : decide (Rw.cf x y < 0) = false := decide_eq_false hv
          have HF2 := Lib.hid (show Found d nn lo hi (c + 1) r from ⟨fun _ => by rw [show nn - (c + 1) = q by omega, Nat.add_sub_cancel, ← hx, ← hy]; exact hd, HF.out.2⟩)
          clear hx hy HF hv hq1
          go_wp2_with fail
          go_quiet_grown ((go_at_call 46; refine Calls.grown_of (hc _ _)))
          change Exit.then _ _ _ _ (grow (wr.drewN nq) osq)
          have HW2 := Lib.hid (HW.out.grown nq osq)
          generalize grow (wr.drewN nq) osq = w2 at HW2 ⊢
          clear c0 c1 c2 c3 e0 e1 e2 e3 hc HW
          go_wp2_with fail
          go_roundw
          case rel => exact ⟨c + 1, r, by go_num, rfl, by omega, by omega, by omega, HW2, HF2⟩
          case measure => simp [intOf]; omega
      · obtain rfl : s = r := by omega
        have hnlt : ¬ ((s : Int) < (s : Int)) := by omega
        obtain ⟨e, hE⟩ : ∃ e : Nat, (nn : Int) - (s : Int) = (e : Int) := ⟨nn - s, by omega⟩
        have e1 : m ≤ e := by omega
        have e2 : e ≤ b := by omega
        have e3 : s ≤ mid := by omega
        have e4 : mid ≤ e := by omega
        have E5 := Lib.hid (show mid = s + (e - m) by omega)
        have HLO := Lib.hid (show a < s → e < b → ltR w0 d[e]! d[s - 1]! = false from fun h h' => by
          have := HF.out.1 (by omega)
          rwa [show nn - s = e by omega] at this)
        have HHI := Lib.hid (show s < m → m < e → ltR w0 d[e - 1]! d[s]! = true from fun h h' => by
          have := HF.out.2 (by omega)
          rwa [show nn - 1 - s = e - 1 by omega] at this)
        clear HF
        by_cases hrot : s < m ∧ m < e
        · have r1 : (s : Int) < (m : Int) := by omega
          have r2 : (m : Int) < (e : Int) := by omega
          go_wp2_with fail
          refine (rotate_any d s m e size R HSZ.out HW.out HDS.out.symm hrot.1 hrot.2 (by rw [HDS.out]; omega) (by rw [HDS.out]; exact hsz)).mono ?_
          rintro e' w1 ⟨rfl, d1, q1, q2, q3⟩
          have z1 : d1.size = size := q2.1.trans HDS.out
          have S1 := Lib.hid q1
          have R1 := Lib.hid q2
          have P1 := Lib.hid (q3.mono (a' := a) (b' := b) (by omega) (by omega))
          have Z1 := Lib.hid z1
          clear q1 q2 q3 z1 HW
          have hsp := split_rot (swo_rows w0) H1.out H2.out (by omega) (by omega) e1 e2 E5.out HLO.out HHI.out R1.out
          have SP := Lib.hid hsp
          clear hsp
          by_cases hl : a < s ∧ s < mid
          · have r3 : (a : Int) < (s : Int) := by omega
            have r4 : (s : Int) < (mid : Int) := by omega
            go_wp2_with fail
            refine (IH.out d1 _ a s mid Z1.out (by omega) hl.1 hl.2 (by omega) S1.out SP.out.1 SP.out.2.1).mono ?_
            rintro e' w2 ⟨rfl, d2, q1, q2, q3, q4⟩
            have S2 := Lib.hid q1
            have Z2 := Lib.hid (q2.trans Z1.out)
            have P2 := Lib.hid q3
            have L2 := Lib.hid q4
            clear q1 q2 q3 q4
            by_cases hr : mid < e ∧ e < b
            · have r5 : (mid : Int) < (e : Int) := by omega
              have r6 : (e : Int) < (b : Int) := by omega
              have q0 := P2.out a mid (Nat.le_refl _) (Nat.le_refl _) (by rw [Z1.out]; omega)
              have h3 := sorted_out SP.out.2.2.1 q0 (.inr (Nat.le_refl _))
              have h4 := sorted_out SP.out.2.2.2.1 q0 (.inr e4)
              have X3 := Lib.hid h3
              have X4 := Lib.hid h4
              clear q0 h3 h4
              go_wp2_with fail
              refine (IH.out d2 _ mid e b Z2.out (by omega) hr.1 hr.2 (by omega) S2.out X3.out X4.out).mono ?_
              rintro e' w3 ⟨rfl, d3, q1, q2, q3, q4⟩
              have S3 := Lib.hid q1
              have Z3 := Lib.hid (q2.trans Z2.out)
              have P3 := Lib.hid q3
              have L3 := Lib.hid q4
              clear q1 q2 q3 q4
              have hfin := merge_fin (d := d) (b := b) (by omega) (by omega) (by rw [HDS.out]; omega) S3.out (Z1.out.trans HDS.out.symm) (Z2.out.trans HDS.out.symm) (Z3.out.trans HDS.out.symm) P1.out P2.out P3.out SP.out.2.2.2.2 L2.out L3.out
              have HFIN := Lib.hid hfin
              clear hfin
              go_wp2_with fail
              go_end0
              exact HFIN.out
            · obtain ⟨w3, hw3⟩ : ∃ w3, w3 = w2 := ⟨_, rfl⟩
              obtain ⟨d3, hd3⟩ : ∃ d3, d3 = d2 := ⟨_, rfl⟩
              have S3 := Lib.hid (show SW w0 w blk d3 w3 by rw [hw3, hd3]; exact S2.out)
              have Z3 := Lib.hid (show d3.size = size by rw [hd3]; exact Z2.out)
              have P3 := Lib.hid (show PermOut mid b d2 d3 by rw [hd3]; exact permOut_refl _ _ _)
              have q0 := P2.out a mid (Nat.le_refl _) (Nat.le_refl _) (by rw [Z1.out]; omega)
              have L3 := Lib.hid (show SortedIn (ltR w0) mid b d3 by
                rw [hd3]
                have h3 : e = mid ∨ e = b := by omega
                rcases h3 with h3 | h3
                · have := sorted_out SP.out.2.2.2.1 q0 (.inr e4); rwa [h3] at this
                · have := sorted_out SP.out.2.2.1 q0 (.inr (Nat.le_refl _)); rwa [h3] at this)
              rw [← hw3]
              clear hw3 hd3 q0
              have hfin := merge_fin (d := d) (b := b) (by omega) (by omega) (by rw [HDS.out]; omega) S3.out (Z1.out.trans HDS.out.symm) (Z2.out.trans HDS.out.symm) (Z3.out.trans HDS.out.symm) P1.out P2.out P3.out SP.out.2.2.2.2 L2.out L3.out
              have HFIN := Lib.hid hfin
              clear hfin
              rcases (show ¬ mid < e ∨ (mid < e ∧ ¬ e < b) by omega) with kr | kr
              · have ir : ¬ (mid : Int) < (e : Int) := by omega
                go_wp2_with fail
                go_end0
                exact HFIN.out
              · have ir : (mid : Int) < (e : Int) := by omega
                have jr : ¬ (e : Int) < (b : Int) := by omega
                go_wp2_with fail
                go_end0
                exact HFIN.out
          · obtain ⟨w2, hw2⟩ : ∃ w2, w2 = w1 := ⟨_, rfl⟩
            obtain ⟨d2, hd2⟩ : ∃ d2, d2 = d1 := ⟨_, rfl⟩
            have S2 := Lib.hid (show SW w0 w blk d2 w2 by rw [hw2, hd2]; exact S1.out)
            have Z2 := Lib.hid (show d2.size = size by rw [hd2]; exact Z1.out)
            have P2 := Lib.hid (show PermOut a mid d1 d2 by rw [hd2]; exact permOut_refl _ _ _)
            have L2 := Lib.hid (show SortedIn (ltR w0) a mid d2 by
              rw [hd2]
              have h3 : s = a ∨ s = mid := by omega
              rcases h3 with h3 | h3
              · have := SP.out.2.1; rwa [h3] at this
              · have := SP.out.1; rwa [h3] at this)
            rw [← hw2]
            clear hw2 hd2
            rcases (show ¬ a < s ∨ (a < s ∧ ¬ s < mid) by omega) with kl | kl
            · have il : ¬ (a : Int) < (s : Int) := by omega
              by_cases hr : mid < e ∧ e < b
              · have r5 : (mid : Int) < (e : Int) := by omega
                have r6 : (e : Int) < (b : Int) := by omega
                have q0 := P2.out a mid (Nat.le_refl _) (Nat.le_refl _) (by rw [Z1.out]; omega)
                have h3 := sorted_out SP.out.2.2.1 q0 (.inr (Nat.le_refl _))
                have h4 := sorted_out SP.out.2.2.2.1 q0 (.inr e4)
                have X3 := Lib.hid h3
                have X4 := Lib.hid h4
                clear q0 h3 h4
                go_wp2_with fail
                refine (IH.out d2 _ mid e b Z2.out (by omega) hr.1 hr.2 (by omega) S2.out X3.out X4.out).mono ?_
                rintro e' w3 ⟨rfl, d3, q1, q2, q3, q4⟩
                have S3 := Lib.hid q1
                have Z3 := Lib.hid (q2.trans Z2.out)
                have P3 := Lib.hid q3
                have L3 := Lib.hid q4
                clear q1 q2 q3 q4
                have hfin := merge_fin (d := d) (b := b) (by omega) (by omega) (by rw [HDS.out]; omega) S3.out (Z1.out.trans HDS.out.symm) (Z2.out.trans HDS.out.symm) (Z3.out.trans HDS.out.symm) P1.out P2.out P3.out SP.out.2.2.2.2 L2.out L3.out
                have HFIN := Lib.hid hfin
                clear hfin
                go_wp2_with fail
                go_end0
                exact HFIN.out
              · obtain ⟨w3, hw3⟩ : ∃ w3, w3 = w2 := ⟨_, rfl⟩
                obtain ⟨d3, hd3⟩ : ∃ d3, d3 = d2 := ⟨_, rfl⟩
                have S3 := Lib.hid (show SW w0 w blk d3 w3 by rw [hw3, hd3]; exact S2.out)
                have Z3 := Lib.hid (show d3.size = size by rw [hd3]; exact Z2.out)
                have P3 := Lib.hid (show PermOut mid b d2 d3 by rw [hd3]; exact permOut_refl _ _ _)
                have q0 := P2.out a mid (Nat.le_refl _) (Nat.le_refl _) (by rw [Z1.out]; omega)
                have L3 := Lib.hid (show SortedIn (ltR w0) mid b d3 by
                  rw [hd3]
                  have h3 : e = mid ∨ e = b := by omega
                  rcases h3 with h3 | h3
                  · have := sorted_out SP.out.2.2.2.1 q0 (.inr e4); rwa [h3] at this
                  · have := sorted_out SP.out.2.2.1 q0 (.inr (Nat.le_refl _)); rwa [h3] at this)
                rw [← hw3]
                clear hw3 hd3 q0
                have hfin := merge_fin (d := d) (b := b) (by omega) (by omega) (by rw [HDS.out]; omega) S3.out (Z1.out.trans HDS.out.symm) (Z2.out.trans HDS.out.symm) (Z3.out.trans HDS.out.symm) P1.out P2.out P3.out SP.out.2.2.2.2 L2.out L3.out
                have HFIN := Lib.hid hfin
                clear hfin
                rcases (show ¬ mid < e ∨ (mid < e ∧ ¬ e < b) by omega) with kr | kr
                · have ir : ¬ (mid : Int) < (e : Int) := by omega
                  go_wp2_with fail
                  go_end0
                  exact HFIN.out
                · have ir : (mid : Int) < (e : Int) := by omega
                  have jr : ¬ (e : Int) < (b : Int) := by omega
                  go_wp2_with fail
                  go_end0
                  exact HFIN.out
            · have il : (a : Int) < (s : Int) := by omega
              have jl : ¬ (s : Int) < (mid : Int) := by omega
              by_cases hr : mid < e ∧ e < b
              · have r5 : (mid : Int) < (e : Int) := by omega
                have r6 : (e : Int) < (b : Int) := by omega
                have q0 := P2.out a mid (Nat.le_refl _) (Nat.le_refl _) (by rw [Z1.out]; omega)
                have h3 := sorted_out SP.out.2.2.1 q0 (.inr (Nat.le_refl _))
                have h4 := sorted_out SP.out.2.2.2.1 q0 (.inr e4)
                have X3 := Lib.hid h3
                have X4 := Lib.hid h4
                clear q0 h3 h4
                go_wp2_with fail
                refine (IH.out d2 _ mid e b Z2.out (by omega) hr.1 hr.2 (by omega) S2.out X3.out X4.out).mono ?_
                rintro e' w3 ⟨rfl, d3, q1, q2, q3, q4⟩
                have S3 := Lib.hid q1
                have Z3 := Lib.hid (q2.trans Z2.out)
                have P3 := Lib.hid q3
                have L3 := Lib.hid q4
                clear q1 q2 q3 q4
                have hfin := merge_fin (d := d) (b := b) (by omega) (by omega) (by rw [HDS.out]; omega) S3.out (Z1.out.trans HDS.out.symm) (Z2.out.trans HDS.out.symm) (Z3.out.trans HDS.out.symm) P1.out P2.out P3.out SP.out.2.2.2.2 L2.out L3.out
                have HFIN := Lib.hid hfin
                clear hfin
                go_wp2_with fail
                go_end0
                exact HFIN.out
              · obtain ⟨w3, hw3⟩ : ∃ w3, w3 = w2 := ⟨_, rfl⟩
                obtain ⟨d3, hd3⟩ : ∃ d3, d3 = d2 := ⟨_, rfl⟩
                have S3 := Lib.hid (show SW w0 w blk d3 w3 by rw [hw3, hd3]; exact S2.out)
                have Z3 := Lib.hid (show d3.size = size by rw [hd3]; exact Z2.out)
                have P3 := Lib.hid (show PermOut mid b d2 d3 by rw [hd3]; exact permOut_refl _ _ _)
                have q0 := P2.out a mid (Nat.le_refl _) (Nat.le_refl _) (by rw [Z1.out]; omega)
                have L3 := Lib.hid (show SortedIn (ltR w0) mid b d3 by
                  rw [hd3]
                  have h3 : e = mid ∨ e = b := by omega
                  rcases h3 with h3 | h3
                  · have := sorted_out SP.out.2.2.2.1 q0 (.inr e4); rwa [h3] at this
                  · have := sorted_out SP.out.2.2.1 q0 (.inr (Nat.le_refl _)); rwa [h3] at this)
                rw [← hw3]
                clear hw3 hd3 q0
                have hfin := merge_fin (d := d) (b := b) (by omega) (by omega) (by rw [HDS.out]; omega) S3.out (Z1.out.trans HDS.out.symm) (Z2.out.trans HDS.out.symm) (Z3.out.trans HDS.out.symm) P1.out P2.out P3.out SP.out.2.2.2.2 L2.out L3.out
                have HFIN := Lib.hid hfin
                clear hfin
                rcases (show ¬ mid < e ∨ (mid < e ∧ ¬ e < b) by omega) with kr | kr
                · have ir : ¬ (mid : Int) < (e : Int) := by omega
                  go_wp2_with fail
                  go_end0
                  exact HFIN.out
                · have ir : (mid : Int) < (e : Int) := by omega
                  have jr : ¬ (e : Int) < (b : Int) := by omega
                  go_wp2_with fail
                  go_end0
                  exact HFIN.out
        · obtain ⟨w1, hw1⟩ : ∃ w1, w1 = wr := ⟨_, rfl⟩
          obtain ⟨d1, hd1⟩ : ∃ d1, d1 = d := ⟨_, rfl⟩
          have S1 := Lib.hid (show SW w0 w blk d1 w1 by rw [hw1, hd1]; exact HW.out)
          have R1 := Lib.hid (show Rot d d1 s m e by rw [hd1]; exact rot_none d (by omega) e1 hrot)
          have P1 := Lib.hid (show PermOut a b d d1 by rw [hd1]; exact permOut_refl _ _ _)
          have Z1 := Lib.hid (show d1.size = size by rw [hd1]; exact HDS.out)
          rw [← hw1]
          clear hw1 hd1 HW
          have hsp := split_rot (swo_rows w0) H1.out H2.out (by omega) (by omega) e1 e2 E5.out HLO.out HHI.out R1.out
          have SP := Lib.hid hsp
          clear hsp
          rcases (show ¬ s < m ∨ (s < m ∧ ¬ m < e) by omega) with krot | krot
          · have irot : ¬ (s : Int) < (m : Int) := by omega
            by_cases hl : a < s ∧ s < mid
            · have r3 : (a : Int) < (s : Int) := by omega
              have r4 : (s : Int) < (mid : Int) := by omega
              go_wp2_with fail
              refine (IH.out d1 _ a s mid Z1.out (by omega) hl.1 hl.2 (by omega) S1.out SP.out.1 SP.out.2.1).mono ?_
              rintro e' w2 ⟨rfl, d2, q1, q2, q3, q4⟩
              have S2 := Lib.hid q1
              have Z2 := Lib.hid (q2.trans Z1.out)
              have P2 := Lib.hid q3
              have L2 := Lib.hid q4
              clear q1 q2 q3 q4
              by_cases hr : mid < e ∧ e < b
              · have r5 : (mid : Int) < (e : Int) := by omega
                have r6 : (e : Int) < (b : Int) := by omega
                have q0 := P2.out a mid (Nat.le_refl _) (Nat.le_refl _) (by rw [Z1.out]; omega)
                have h3 := sorted_out SP.out.2.2.1 q0 (.inr (Nat.le_refl _))
                have h4 := sorted_out SP.out.2.2.2.1 q0 (.inr e4)
                have X3 := Lib.hid h3
                have X4 := Lib.hid h4
                clear q0 h3 h4
                go_wp2_with fail
                refine (IH.out d2 _ mid e b Z2.out (by omega) hr.1 hr.2 (by omega) S2.out X3.out X4.out).mono ?_
                rintro e' w3 ⟨rfl, d3, q1, q2, q3, q4⟩
                have S3 := Lib.hid q1
                have Z3 := Lib.hid (q2.trans Z2.out)
                have P3 := Lib.hid q3
                have L3 := Lib.hid q4
                clear q1 q2 q3 q4
                have hfin := merge_fin (d := d) (b := b) (by omega) (by omega) (by rw [HDS.out]; omega) S3.out (Z1.out.trans HDS.out.symm) (Z2.out.trans HDS.out.symm) (Z3.out.trans HDS.out.symm) P1.out P2.out P3.out SP.out.2.2.2.2 L2.out L3.out
                have HFIN := Lib.hid hfin
                clear hfin
                go_wp2_with fail
                go_end0
                exact HFIN.out
              · obtain ⟨w3, hw3⟩ : ∃ w3, w3 = w2 := ⟨_, rfl⟩
                obtain ⟨d3, hd3⟩ : ∃ d3, d3 = d2 := ⟨_, rfl⟩
                have S3 := Lib.hid (show SW w0 w blk d3 w3 by rw [hw3, hd3]; exact S2.out)
                have Z3 := Lib.hid (show d3.size = size by rw [hd3]; exact Z2.out)
                have P3 := Lib.hid (show PermOut mid b d2 d3 by rw [hd3]; exact permOut_refl _ _ _)
                have q0 := P2.out a mid (Nat.le_refl _) (Nat.le_refl _) (by rw [Z1.out]; omega)
                have L3 := Lib.hid (show SortedIn (ltR w0) mid b d3 by
                  rw [hd3]
                  have h3 : e = mid ∨ e = b := by omega
                  rcases h3 with h3 | h3
                  · have := sorted_out SP.out.2.2.2.1 q0 (.inr e4); rwa [h3] at this
                  · have := sorted_out SP.out.2.2.1 q0 (.inr (Nat.le_refl _)); rwa [h3] at this)
                rw [← hw3]
                clear hw3 hd3 q0
                have hfin := merge_fin (d := d) (b := b) (by omega) (by omega) (by rw [HDS.out]; omega) S3.out (Z1.out.trans HDS.out.symm) (Z2.out.trans HDS.out.symm) (Z3.out.trans HDS.out.symm) P1.out P2.out P3.out SP.out.2.2.2.2 L2.out L3.out
                have HFIN := Lib.hid hfin
                clear hfin
                rcases (show ¬ mid < e ∨ (mid < e ∧ ¬ e < b) by omega) with kr | kr
                · have ir : ¬ (mid : Int) < (e : Int) := by omega
                  go_wp2_with fail
                  go_end0
                  exact HFIN.out
                · have ir : (mid : Int) < (e : Int) := by omega
                  have jr : ¬ (e : Int) < (b : Int) := by omega
                  go_wp2_with fail
                  go_end0
                  exact HFIN.out
            · obtain ⟨w2, hw2⟩ : ∃ w2, w2 = w1 := ⟨_, rfl⟩
              obtain ⟨d2, hd2⟩ : ∃ d2, d2 = d1 := ⟨_, rfl⟩
              have S2 := Lib.hid (show SW w0 w blk d2 w2 by rw [hw2, hd2]; exact S1.out)
              have Z2 := Lib.hid (show d2.size = size by rw [hd2]; exact Z1.out)
              have P2 := Lib.hid (show PermOut a mid d1 d2 by rw [hd2]; exact permOut_refl _ _ _)
              have L2 := Lib.hid (show SortedIn (ltR w0) a mid d2 by
                rw [hd2]
                have h3 : s = a ∨ s = mid := by omega
                rcases h3 with h3 | h3
                · have := SP.out.2.1; rwa [h3] at this
                · have := SP.out.1; rwa [h3] at this)
              rw [← hw2]
              clear hw2 hd2
              rcases (show ¬ a < s ∨ (a < s ∧ ¬ s < mid) by omega) with kl | kl
              · have il : ¬ (a : Int) < (s : Int) := by omega
                by_cases hr : mid < e ∧ e < b
                · have r5 : (mid : Int) < (e : Int) := by omega
                  have r6 : (e : Int) < (b : Int) := by omega
                  have q0 := P2.out a mid (Nat.le_refl _) (Nat.le_refl _) (by rw [Z1.out]; omega)
                  have h3 := sorted_out SP.out.2.2.1 q0 (.inr (Nat.le_refl _))
                  have h4 := sorted_out SP.out.2.2.2.1 q0 (.inr e4)
                  have X3 := Lib.hid h3
                  have X4 := Lib.hid h4
                  clear q0 h3 h4
                  go_wp2_with fail
                  refine (IH.out d2 _ mid e b Z2.out (by omega) hr.1 hr.2 (by omega) S2.out X3.out X4.out).mono ?_
                  rintro e' w3 ⟨rfl, d3, q1, q2, q3, q4⟩
                  have S3 := Lib.hid q1
                  have Z3 := Lib.hid (q2.trans Z2.out)
                  have P3 := Lib.hid q3
                  have L3 := Lib.hid q4
                  clear q1 q2 q3 q4
                  have hfin := merge_fin (d := d) (b := b) (by omega) (by omega) (by rw [HDS.out]; omega) S3.out (Z1.out.trans HDS.out.symm) (Z2.out.trans HDS.out.symm) (Z3.out.trans HDS.out.symm) P1.out P2.out P3.out SP.out.2.2.2.2 L2.out L3.out
                  have HFIN := Lib.hid hfin
                  clear hfin
                  go_wp2_with fail
                  go_end0
                  exact HFIN.out
                · obtain ⟨w3, hw3⟩ : ∃ w3, w3 = w2 := ⟨_, rfl⟩
                  obtain ⟨d3, hd3⟩ : ∃ d3, d3 = d2 := ⟨_, rfl⟩
                  have S3 := Lib.hid (show SW w0 w blk d3 w3 by rw [hw3, hd3]; exact S2.out)
                  have Z3 := Lib.hid (show d3.size = size by rw [hd3]; exact Z2.out)
                  have P3 := Lib.hid (show PermOut mid b d2 d3 by rw [hd3]; exact permOut_refl _ _ _)
                  have q0 := P2.out a mid (Nat.le_refl _) (Nat.le_refl _) (by rw [Z1.out]; omega)
                  have L3 := Lib.hid (show SortedIn (ltR w0) mid b d3 by
                    rw [hd3]
                    have h3 : e = mid ∨ e = b := by omega
                    rcases h3 with h3 | h3
                    · have := sorted_out SP.out.2.2.2.1 q0 (.inr e4); rwa [h3] at this
                    · have := sorted_out SP.out.2.2.1 q0 (.inr (Nat.le_refl _)); rwa [h3] at this)
                  rw [← hw3]
                  clear hw3 hd3 q0
                  have hfin := merge_fin (d := d) (b := b) (by omega) (by omega) (by rw [HDS.out]; omega) S3.out (Z1.out.trans HDS.out.symm) (Z2.out.trans HDS.out.symm) (Z3.out.trans HDS.out.symm) P1.out P2.out P3.out SP.out.2.2.2.2 L2.out L3.out
                  have HFIN := Lib.hid hfin
                  clear hfin
                  rcases (show ¬ mid < e ∨ (mid < e ∧ ¬ e < b) by omega) with kr | kr
                  · have ir : ¬ (mid : Int) < (e : Int) := by omega
                    go_wp2_with fail
                    go_end0
                    exact HFIN.out
                  · have ir : (mid : Int) < (e : Int) := by omega
                    have jr : ¬ (e : Int) < (b : Int) := by omega
                    go_wp2_with fail
                    go_end0
                    exact HFIN.out
              · have il : (a : Int) < (s : Int) := by omega
                have jl : ¬ (s : Int) < (mid : Int) := by omega
                by_cases hr : mid < e ∧ e < b
                · have r5 : (mid : Int) < (e : Int) := by omega
                  have r6 : (e : Int) < (b : Int) := by omega
                  have q0 := P2.out a mid (Nat.le_refl _) (Nat.le_refl _) (by rw [Z1.out]; omega)
                  have h3 := sorted_out SP.out.2.2.1 q0 (.inr (Nat.le_refl _))
                  have h4 := sorted_out SP.out.2.2.2.1 q0 (.inr e4)
                  have X3 := Lib.hid h3
                  have X4 := Lib.hid h4
                  clear q0 h3 h4
                  go_wp2_with fail
                  refine (IH.out d2 _ mid e b Z2.out (by omega) hr.1 hr.2 (by omega) S2.out X3.out X4.out).mono ?_
                  rintro e' w3 ⟨rfl, d3, q1, q2, q3, q4⟩
                  have S3 := Lib.hid q1
                  have Z3 := Lib.hid (q2.trans Z2.out)
                  have P3 := Lib.hid q3
                  have L3 := Lib.hid q4
                  clear q1 q2 q3 q4
                  have hfin := merge_fin (d := d) (b := b) (by omega) (by omega) (by rw [HDS.out]; omega) S3.out (Z1.out.trans HDS.out.symm) (Z2.out.trans HDS.out.symm) (Z3.out.trans HDS.out.symm) P1.out P2.out P3.out SP.out.2.2.2.2 L2.out L3.out
                  have HFIN := Lib.hid hfin
                  clear hfin
                  go_wp2_with fail
                  go_end0
                  exact HFIN.out
                · obtain ⟨w3, hw3⟩ : ∃ w3, w3 = w2 := ⟨_, rfl⟩
                  obtain ⟨d3, hd3⟩ : ∃ d3, d3 = d2 := ⟨_, rfl⟩
                  have S3 := Lib.hid (show SW w0 w blk d3 w3 by rw [hw3, hd3]; exact S2.out)
                  have Z3 := Lib.hid (show d3.size = size by rw [hd3]; exact Z2.out)
                  have P3 := Lib.hid (show PermOut mid b d2 d3 by rw [hd3]; exact permOut_refl _ _ _)
                  have q0 := P2.out a mid (Nat.le_refl _) (Nat.le_refl _) (by rw [Z1.out]; omega)
                  have L3 := Lib.hid (show SortedIn (ltR w0) mid b d3 by
                    rw [hd3]
                    have h3 : e = mid ∨ e = b := by omega
                    rcases h3 with h3 | h3
                    · have := sorted_out SP.out.2.2.2.1 q0 (.inr e4); rwa [h3] at this
                    · have := sorted_out SP.out.2.2.1 q0 (.inr (Nat.le_refl _)); rwa [h3] at this)
                  rw [← hw3]
                  clear hw3 hd3 q0
                  have hfin := merge_fin (d := d) (b := b) (by omega) (by omega) (by rw [HDS.out]; omega) S3.out (Z1.out.trans HDS.out.symm) (Z2.out.trans HDS.out.symm) (Z3.out.trans HDS.out.symm) P1.out P2.out P3.out SP.out.2.2.2.2 L2.out L3.out
                  have HFIN := Lib.hid hfin
                  clear hfin
                  rcases (show ¬ mid < e ∨ (mid < e ∧ ¬ e < b) by omega) with kr | kr
                  · have ir : ¬ (mid : Int) < (e : Int) := by omega
                    go_wp2_with fail
                    go_end0
                    exact HFIN.out
                  · have ir : (mid : Int) < (e : Int) := by omega
                    have jr : ¬ (e : Int) < (b : Int) := by omega
                    go_wp2_with fail
                    go_end0
                    exact HFIN.out
          · have irot : (s : Int) < (m : Int) := by omega
            have jrot : ¬ (m : Int) < (e : Int) := by omega
            by_cases hl : a < s ∧ s < mid
            · have r3 : (a : Int) < (s : Int) := by omega
              have r4 : (s : Int) < (mid : Int) := by omega
              go_wp2_with fail
              refine (IH.out d1 _ a s mid Z1.out (by omega) hl.1 hl.2 (by omega) S1.out SP.out.1 SP.out.2.1).mono ?_
              rintro e' w2 ⟨rfl, d2, q1, q2, q3, q4⟩
              have S2 := Lib.hid q1
              have Z2 := Lib.hid (q2.trans Z1.out)
              have P2 := Lib.hid q3
              have L2 := Lib.hid q4
              clear q1 q2 q3 q4
              by_cases hr : mid < e ∧ e < b
              · have r5 : (mid : Int) < (e : Int) := by omega
                have r6 : (e : Int) < (b : Int) := by omega
                have q0 := P2.out a mid (Nat.le_refl _) (Nat.le_refl _) (by rw [Z1.out]; omega)
                have h3 := sorted_out SP.out.2.2.1 q0 (.inr (Nat.le_refl _))
                have h4 := sorted_out SP.out.2.2.2.1 q0 (.inr e4)
                have X3 := Lib.hid h3
                have X4 := Lib.hid h4
                clear q0 h3 h4
                go_wp2_with fail
                refine (IH.out d2 _ mid e b Z2.out (by omega) hr.1 hr.2 (by omega) S2.out X3.out X4.out).mono ?_
                rintro e' w3 ⟨rfl, d3, q1, q2, q3, q4⟩
                have S3 := Lib.hid q1
                have Z3 := Lib.hid (q2.trans Z2.out)
                have P3 := Lib.hid q3
                have L3 := Lib.hid q4
                clear q1 q2 q3 q4
                have hfin := merge_fin (d := d) (b := b) (by omega) (by omega) (by rw [HDS.out]; omega) S3.out (Z1.out.trans HDS.out.symm) (Z2.out.trans HDS.out.symm) (Z3.out.trans HDS.out.symm) P1.out P2.out P3.out SP.out.2.2.2.2 L2.out L3.out
                have HFIN := Lib.hid hfin
                clear hfin
                go_wp2_with fail
                go_end0
                exact HFIN.out
              · obtain ⟨w3, hw3⟩ : ∃ w3, w3 = w2 := ⟨_, rfl⟩
                obtain ⟨d3, hd3⟩ : ∃ d3, d3 = d2 := ⟨_, rfl⟩
                have S3 := Lib.hid (show SW w0 w blk d3 w3 by rw [hw3, hd3]; exact S2.out)
                have Z3 := Lib.hid (show d3.size = size by rw [hd3]; exact Z2.out)
                have P3 := Lib.hid (show PermOut mid b d2 d3 by rw [hd3]; exact permOut_refl _ _ _)
                have q0 := P2.out a mid (Nat.le_refl _) (Nat.le_refl _) (by rw [Z1.out]; omega)
                have L3 := Lib.hid (show SortedIn (ltR w0) mid b d3 by
                  rw [hd3]
                  have h3 : e = mid ∨ e = b := by omega
                  rcases h3 with h3 | h3
                  · have := sorted_out SP.out.2.2.2.1 q0 (.inr e4); rwa [h3] at this
                  · have := sorted_out SP.out.2.2.1 q0 (.inr (Nat.le_refl _)); rwa [h3] at this)
                rw [← hw3]
                clear hw3 hd3 q0
                have hfin := merge_fin (d := d) (b := b) (by omega) (by omega) (by rw [HDS.out]; omega) S3.out (Z1.out.trans HDS.out.symm) (Z2.out.trans HDS.out.symm) (Z3.out.trans HDS.out.symm) P1.out P2.out P3.out SP.out.2.2.2.2 L2.out L3.out
                have HFIN := Lib.hid hfin
                clear hfin
                rcases (show ¬ mid < e ∨ (mid < e ∧ ¬ e < b) by omega) with kr | kr
                · have ir : ¬ (mid : Int) < (e : Int) := by omega
                  go_wp2_with fail
                  go_end0
                  exact HFIN.out
                · have ir : (mid : Int) < (e : Int) := by omega
                  have jr : ¬ (e : Int) < (b : Int) := by omega
                  go_wp2_with fail
                  go_end0
                  exact HFIN.out
            · obtain ⟨w2, hw2⟩ : ∃ w2, w2 = w1 := ⟨_, rfl⟩
              obtain ⟨d2, hd2⟩ : ∃ d2, d2 = d1 := ⟨_, rfl⟩
              have S2 := Lib.hid (show SW w0 w blk d2 w2 by rw [hw2, hd2]; exact S1.out)
              have Z2 := Lib.hid (show d2.size = size by rw [hd2]; exact Z1.out)
              have P2 := Lib.hid (show PermOut a mid d1 d2 by rw [hd2]; exact permOut_refl _ _ _)
              have L2 := Lib.hid (show SortedIn (ltR w0) a mid d2 by
                rw [hd2]
                have h3 : s = a ∨ s = mid := by omega
                rcases h3 with h3 | h3
                · have := SP.out.2.1; rwa [h3] at this
                · have := SP.out.1; rwa [h3] at this)
              rw [← hw2]
              clear hw2 hd2
              rcases (show ¬ a < s ∨ (a < s ∧ ¬ s < mid) by omega) with kl | kl
              · have il : ¬ (a : Int) < (s : Int) := by omega
                by_cases hr : mid < e ∧ e < b
                · have r5 : (mid : Int) < (e : Int) := by omega
                  have r6 : (e : Int) < (b : Int) := by omega
                  have q0 := P2.out a mid (Nat.le_refl _) (Nat.le_refl _) (by rw [Z1.out]; omega)
                  have h3 := sorted_out SP.out.2.2.1 q0 (.inr (Nat.le_refl _))
                  have h4 := sorted_out SP.out.2.2.2.1 q0 (.inr e4)
                  have X3 := Lib.hid h3
                  have X4 := Lib.hid h4
                  clear q0 h3 h4
                  go_wp2_with fail
                  refine (IH.out d2 _ mid e b Z2.out (by omega) hr.1 hr.2 (by omega) S2.out X3.out X4.out).mono ?_
                  rintro e' w3 ⟨rfl, d3, q1, q2, q3, q4⟩
                  have S3 := Lib.hid q1
                  have Z3 := Lib.hid (q2.trans Z2.out)
                  have P3 := Lib.hid q3
                  have L3 := Lib.hid q4
                  clear q1 q2 q3 q4
                  have hfin := merge_fin (d := d) (b := b) (by omega) (by omega) (by rw [HDS.out]; omega) S3.out (Z1.out.trans HDS.out.symm) (Z2.out.trans HDS.out.symm) (Z3.out.trans HDS.out.symm) P1.out P2.out P3.out SP.out.2.2.2.2 L2.out L3.out
                  have HFIN := Lib.hid hfin
                  clear hfin
                  go_wp2_with fail
                  go_end0
                  exact HFIN.out
                · obtain ⟨w3, hw3⟩ : ∃ w3, w3 = w2 := ⟨_, rfl⟩
                  obtain ⟨d3, hd3⟩ : ∃ d3, d3 = d2 := ⟨_, rfl⟩
                  have S3 := Lib.hid (show SW w0 w blk d3 w3 by rw [hw3, hd3]; exact S2.out)
                  have Z3 := Lib.hid (show d3.size = size by rw [hd3]; exact Z2.out)
                  have P3 := Lib.hid (show PermOut mid b d2 d3 by rw [hd3]; exact permOut_refl _ _ _)
                  have q0 := P2.out a mid (Nat.le_refl _) (Nat.le_refl _) (by rw [Z1.out]; omega)
                  have L3 := Lib.hid (show SortedIn (ltR w0) mid b d3 by
                    rw [hd3]
                    have h3 : e = mid ∨ e = b := by omega
                    rcases h3 with h3 | h3
                    · have := sorted_out SP.out.2.2.2.1 q0 (.inr e4); rwa [h3] at this
                    · have := sorted_out SP.out.2.2.1 q0 (.inr (Nat.le_refl _)); rwa [h3] at this)
                  rw [← hw3]
                  clear hw3 hd3 q0
                  have hfin := merge_fin (d := d) (b := b) (by omega) (by omega) (by rw [HDS.out]; omega) S3.out (Z1.out.trans HDS.out.symm) (Z2.out.trans HDS.out.symm) (Z3.out.trans HDS.out.symm) P1.out P2.out P3.out SP.out.2.2.2.2 L2.out L3.out
                  have HFIN := Lib.hid hfin
                  clear hfin
                  rcases (show ¬ mid < e ∨ (mid < e ∧ ¬ e < b) by omega) with kr | kr
                  · have ir : ¬ (mid : Int) < (e : Int) := by omega
                    go_wp2_with fail
                    go_end0
                    exact HFIN.out
                  · have ir : (mid : Int) < (e : Int) := by omega
                    have jr : ¬ (e : Int) < (b : Int) := by omega
                    go_wp2_with fail
                    go_end0
                    exact HFIN.out
              · have il : (a : Int) < (s : Int) := by omega
                have jl : ¬ (s : Int) < (mid : Int) := by omega
                by_cases hr : mid < e ∧ e < b
                · have r5 : (mid : Int) < (e : Int) := by omega
                  have r6 : (e : Int) < (b : Int) := by omega
                  have q0 := P2.out a mid (Nat.le_refl _) (Nat.le_refl _) (by rw [Z1.out]; omega)
                  have h3 := sorted_out SP.out.2.2.1 q0 (.inr (Nat.le_refl _))
                  have h4 := sorted_out SP.out.2.2.2.1 q0 (.inr e4)
                  have X3 := Lib.hid h3
                  have X4 := Lib.hid h4
                  clear q0 h3 h4
                  go_wp2_with fail
                  refine (IH.out d2 _ mid e b Z2.out (by omega) hr.1 hr.2 (by omega) S2.out X3.out X4.out).mono ?_
                  rintro e' w3 ⟨rfl, d3, q1, q2, q3, q4⟩
                  have S3 := Lib.hid q1
                  have Z3 := Lib.hid (q2.trans Z2.out)
                  have P3 := Lib.hid q3
                  have L3 := Lib.hid q4
                  clear q1 q2 q3 q4
                  have hfin := merge_fin (d := d) (b := b) (by omega) (by omega) (by rw [HDS.out]; omega) S3.out (Z1.out.trans HDS.out.symm) (Z2.out.trans HDS.out.symm) (Z3.out.trans HDS.out.symm) P1.out P2.out P3.out SP.out.2.2.2.2 L2.out L3.out
                  have HFIN := Lib.hid hfin
                  clear hfin
                  go_wp2_with fail
                  go_end0
                  exact HFIN.out
                · obtain ⟨w3, hw3⟩ : ∃ w3, w3 = w2 := ⟨_, rfl⟩
                  obtain ⟨d3, hd3⟩ : ∃ d3, d3 = d2 := ⟨_, rfl⟩
                  have S3 := Lib.hid (show SW w0 w blk d3 w3 by rw [hw3, hd3]; exact S2.out)
                  have Z3 := Lib.hid (show d3.size = size by rw [hd3]; exact Z2.out)
                  have P3 := Lib.hid (show PermOut mid b d2 d3 by rw [hd3]; exact permOut_refl _ _ _)
                  have q0 := P2.out a mid (Nat.le_refl _) (Nat.le_refl _) (by rw [Z1.out]; omega)
                  have L3 := Lib.hid (show SortedIn (ltR w0) mid b d3 by
                    rw [hd3]
                    have h3 : e = mid ∨ e = b := by omega
                    rcases h3 with h3 | h3
                    · have := sorted_out SP.out.2.2.2.1 q0 (.inr e4); rwa [h3] at this
                    · have := sorted_out SP.out.2.2.1 q0 (.inr (Nat.le_refl _)); rwa [h3] at this)
                  rw [← hw3]
                  clear hw3 hd3 q0
                  have hfin := merge_fin (d := d) (b := b) (by omega) (by omega) (by rw [HDS.out]; omega) S3.out (Z1.out.trans HDS.out.symm) (Z2.out.trans HDS.out.symm) (Z3.out.trans HDS.out.symm) P1.out P2.out P3.out SP.out.2.2.2.2 L2.out L3.out
                  have HFIN := Lib.hid hfin
                  clear hfin
                  rcases (show ¬ mid < e ∨ (mid < e ∧ ¬ e < b) by omega) with kr | kr
                  · have ir : ¬ (mid : Int) < (e : Int) := by omega
                    go_wp2_with fail
                    go_end0
                    exact HFIN.out
                  · have ir : (mid : Int) < (e : Int) := by omega
                    have jr : ¬ (e : Int) < (b : Int) := by omega
                    go_wp2_with fail
                    go_end0
                    exact HFIN.out

end Go.Proofs.Ytcbgnikbaepkaaa
