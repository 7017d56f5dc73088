/- Those within a span, and the others. -/
import Derived.Test.YtcbgnikbaepkaaaPe
namespace Go.Proofs.Ytcbgnikbaepkaaa
open Go.Shelf Go.RowKit Go.Lib Go.Sort Go.Proofs

set_option maxHeartbeats 1600000 in
set_option maxRecDepth 100000 in
theorem within35 (t : Int) (d m : Value) (fr to : Int) (g : Nat) (w : World) (s0 : w.cell? ⟨g, 0, none⟩ = some (.int .i64 fr)) (s1 : w.cell? ⟨g, 1, none⟩ = some (.int .i64 to)) :
    Calls Try.prog 35 #[faV t d m, .pointer (some ⟨g, 0, none⟩)] w fun e w' => e = .returned (.bool (inS fr to t)) ∧ Grows w w' := by
  unfold faV
  have hg0 := World.block_lt_of_cell? w _ s0
  have s0' : (w.alloc (.cells #[.int .i64 t, d, m] 27)).cell? ⟨g, 0, none⟩ = some (.int .i64 fr) := (Grows.alloc w _).cell s0
  have s1' : (w.alloc (.cells #[.int .i64 t, d, m] 27)).cell? ⟨g, 1, none⟩ = some (.int .i64 to) := (Grows.alloc w _).cell s1
  clear s0 s1
  by_cases h1 : fr ≤ t
  · by_cases h2 : t < to
    · have e : inS fr to t = true := by unfold inS; simp [h1, h2]
      rw [e]
      go_enter Try.func35, Try.ntmps35
      go_wp2_with fail
      go_ret
      exact ⟨rfl, Grows.alloc _ _⟩
    · have e : inS fr to t = false := by unfold inS; simp [h2]
      rw [e]
      go_enter Try.func35, Try.ntmps35
      go_wp2_with fail
      go_ret
      exact ⟨rfl, Grows.alloc _ _⟩
  · have e : inS fr to t = false := by unfold inS; simp [h1]
    rw [e]
    go_enter Try.func35, Try.ntmps35
    go_wp2_with fail
    go_ret
    exact ⟨rfl, Grows.alloc _ _⟩

set_option maxHeartbeats 1600000 in
set_option maxRecDepth 100000 in
theorem without36 (t : Int) (d m : Value) (fr to : Int) (g : Nat) (w : World) (s0 : w.cell? ⟨g, 0, none⟩ = some (.int .i64 fr)) (s1 : w.cell? ⟨g, 1, none⟩ = some (.int .i64 to)) :
    Calls Try.prog 36 #[faV t d m, .pointer (some ⟨g, 0, none⟩)] w fun e w' => e = .returned (.bool (!inS fr to t)) ∧ Grows w w' := by
  unfold faV
  have s0' : (w.alloc (.cells #[.int .i64 t, d, m] 27)).cell? ⟨g, 0, none⟩ = some (.int .i64 fr) := (Grows.alloc w _).cell s0
  have s1' : (w.alloc (.cells #[.int .i64 t, d, m] 27)).cell? ⟨g, 1, none⟩ = some (.int .i64 to) := (Grows.alloc w _).cell s1
  clear s0 s1
  by_cases h1 : t < fr
  · have e : inS fr to t = false := by unfold inS; simp; intro; omega
    rw [e]
    go_enter Try.func36, Try.ntmps36
    go_wp2_with fail
    go_ret
    exact ⟨rfl, Grows.alloc _ _⟩
  · by_cases h2 : to ≤ t
    · have e : inS fr to t = false := by unfold inS; simp; intro; omega
      rw [e]
      go_enter Try.func36, Try.ntmps36
      go_wp2_with fail
      go_ret
      exact ⟨rfl, Grows.alloc _ _⟩
    · have e : inS fr to t = true := by unfold inS; simp; omega
      rw [e]
      go_enter Try.func36, Try.ntmps36
      go_wp2_with fail
      go_ret
      exact ⟨rfl, Grows.alloc _ _⟩

/-- What a bag is, told by what the document says. -/
def BagR (w : World) (ps : Ps) (e : Ending) (w' : World) : Prop :=
  ∃ a n c l', e = .returned (.slice a n c) ∧ (n = l'.length ∧ OwnRows w' w.heap.size (.slice a n c) l' ∧ l'.map Ro.p = ownP ps ∧ ∀ y ∈ l', y.mine w' ∧ ∀ g, (Value.slice a n c).ownBlock = some g → Apart w.heap.size g y) ∧ Kept w w'

theorem BagIs.bagR {w w' : World} {ps : Ps} {e : Ending} (h : BagIs w ps e w') (hf : Fit ps) : BagR w ps e w' := by
  obtain ⟨v, l', rfl, ho, hb, hok, hk⟩ := h
  obtain ⟨a, c, rfl⟩ := ho.slice
  exact ⟨a, _, c, l', rfl, ⟨rfl, ho, hb.own hf, hok⟩, hk⟩

theorem BagR.base {w w1 w' : World} {ps : Ps} {e : Ending} (h : BagR w1 ps e w') (hk : Kept w w1) : BagR w ps e w' := by
  obtain ⟨a, n, c, l', h1, ⟨h2, h3, h4, h5⟩, h6⟩ := h
  exact ⟨a, n, c, l', h1, ⟨h2, h3.base hk.size, h4, fun y hy => ⟨(h5 y hy).1, fun g hg => ((h5 y hy).2 g hg).base hk.size⟩⟩, hk.trans h6⟩

theorem taken_eq (tk : Fa → Bool) (l : List Ro) : taken tk l = (l.map Ro.p).filter fun q => tk q.1 := by
  unfold taken
  rw [List.filter_map]
  rfl

theorem fit_filter {ps : Ps} (h : Fit ps) (t : Fa × Int → Bool) : Fit (ps.filter t) := fun p hp => h p (List.mem_filter.1 hp).1

/-- bag of rows that came in, whatever their number. -/
theorem bag_any (v : Value) (l : List Ro) (w : World) (tk : Fa → Bool) (t : Nat) (caps : Array Value) (h : RowsAt w v l) (hf : Fit (l.map Ro.p))
    (ht : ∀ V, Kept w V → ∀ x, Ro.ok w x → Calls Try.prog t (#[faV x.f.time x.d x.m] ++ caps) V fun e w' => e = .returned (.bool (tk x.f)) ∧ Grows V w')
    (hent : ∀ args W, (callFunc t args).run Try.prog W = .ok (.enter t args) W) :
    Calls Try.prog 33 #[v, .func (.func t) #[] caps] w (BagR w ((l.map Ro.p).filter fun q => tk q.1)) :=
  (bag_is v l w tk t caps h ht (fun wr g c rows h1 h2 h3 h4 => sort_all l.length (Nat.lt_trans h.len (by decide)) w wr g c rows h1 h2 h3 h4) hent).mono fun _ _ hb => by
    rw [taken_eq] at hb
    exact hb.bagR (fit_filter hf _)

set_option maxHeartbeats 1600000 in
set_option maxRecDepth 100000 in
theorem fWithin_is (a : Option Addr) (len c : Nat) (l : List Ro) (fr to : Int) (w : World) (h : RowsAt w (.slice a len c) l) (hf : Fit (l.map Ro.p)) :
    Calls Try.prog 19 #[.slice a len c, .agg #[.int .i64 fr, .int .i64 to]] w (BagR w ((l.map Ro.p).filter fun q => inS fr to q.1.time)) := by
  obtain ⟨W, hW⟩ : ∃ W, W = w.alloc (.cells #[.int .i64 fr, .int .i64 to] 44) := ⟨_, rfl⟩
  have gW : Grows w W := by rw [hW]; exact Grows.alloc _ _
  have bW : W.heap[w.heap.size]? = some (.cells #[.int .i64 fr, .int .i64 to] 44 (0, 0)) := by rw [hW]; exact (MapKept.heap_alloc _ _).1
  have hb := bag_any (.slice a len c) l W (fun f => inS fr to f.time) 35 #[.pointer (some ⟨w.heap.size, 0, none⟩)] (h.kept gW.kept) hf
    (fun V hV x hx => within35 _ _ _ fr to w.heap.size V (hV.cell (by simp only [World.cell?, bW]; rfl)) (hV.cell (by simp only [World.cell?, bW]; rfl))) (fun args W => enters_of Try.func35 (by kernel_rfl) rfl args W)
  have HB := Lib.hid hb
  have HW := Lib.hid hW
  have GW := Lib.hid gW
  clear hb hW gW bW h hf
  go_enter Try.func19, Try.ntmps19
  go_wp2_with fail
  rw [← HW.out]
  refine HB.out.mono ?_
  intro e w1 h1
  have H2 := Lib.hid (h1.base GW.out.kept)
  obtain ⟨a1, n1, c1, l1, rfl, h3⟩ := h1
  clear h3
  go_wp2_with fail
  go_ret
  exact H2.out

set_option maxHeartbeats 1600000 in
set_option maxRecDepth 100000 in
theorem fWithout_is (a : Option Addr) (len c : Nat) (l : List Ro) (fr to : Int) (w : World) (h : RowsAt w (.slice a len c) l) (hf : Fit (l.map Ro.p)) :
    Calls Try.prog 21 #[.slice a len c, .agg #[.int .i64 fr, .int .i64 to]] w (BagR w ((l.map Ro.p).filter fun q => !inS fr to q.1.time)) := by
  obtain ⟨W, hW⟩ : ∃ W, W = w.alloc (.cells #[.int .i64 fr, .int .i64 to] 44) := ⟨_, rfl⟩
  have gW : Grows w W := by rw [hW]; exact Grows.alloc _ _
  have bW : W.heap[w.heap.size]? = some (.cells #[.int .i64 fr, .int .i64 to] 44 (0, 0)) := by rw [hW]; exact (MapKept.heap_alloc _ _).1
  have hb := bag_any (.slice a len c) l W (fun f => !inS fr to f.time) 36 #[.pointer (some ⟨w.heap.size, 0, none⟩)] (h.kept gW.kept) hf
    (fun V hV x hx => without36 _ _ _ fr to w.heap.size V (hV.cell (by simp only [World.cell?, bW]; rfl)) (hV.cell (by simp only [World.cell?, bW]; rfl))) (fun args W => enters_of Try.func36 (by kernel_rfl) rfl args W)
  have HB := Lib.hid hb
  have HW := Lib.hid hW
  have GW := Lib.hid gW
  clear hb hW gW bW h hf
  go_enter Try.func21, Try.ntmps21
  go_wp2_with fail
  rw [← HW.out]
  refine HB.out.mono ?_
  intro e w1 h1
  have H2 := Lib.hid (h1.base GW.out.kept)
  obtain ⟨a1, n1, c1, l1, rfl, h3⟩ := h1
  clear h3
  go_wp2_with fail
  go_ret
  exact H2.out

/-- A fact's number among those that are taken. -/
theorem cnt_filter (t : Fa → Bool) (f : Fa) (l : Ps) : cnt f (l.filter fun q => t q.1) = if t f then cnt f l else 0 := by
  induction l with
  | nil => simp [cnt]
  | cons x l ih =>
    obtain ⟨g, n⟩ := x
    by_cases hg : t g = true
    · rw [List.filter_cons_of_pos (by simpa using hg)]
      simp only [cnt, ih]
      by_cases h0 : cmpF g f = 0
      · have e := cmpF_eq h0
        subst e
        simp [hg]
      · simp only [if_neg h0]
        split <;> omega
    · rw [List.filter_cons_of_neg (by simpa using hg), ih]
      have hgf : t g = false := by simpa using hg
      simp only [cnt]
      by_cases h0 : cmpF g f = 0
      · have e := cmpF_eq h0
        subst e
        simp [hgf]
      · simp [h0]

/-- Those that are taken of a bag are the bag of those that are taken. -/
theorem own_filter (t : Fa → Bool) (ps : Ps) (hf : Fit ps) : ownP (ps.filter fun q => t q.1) = (ownP ps).filter fun q => t q.1 := by
  obtain ⟨a1, a2, a3, a4, _⟩ := ownP_inv (ps.filter fun q => t q.1) (fit_filter hf _)
  obtain ⟨b1, b2, b3, b4, _⟩ := ownP_inv ps hf
  refine rise_unique a1 (List.Pairwise.filter _ b1) a2 (fit_filter b2 _) a3 (fun p hp => b3 p (List.mem_filter.1 hp).1) fun f => ?_
  rw [a4, cnt_filter, cnt_filter]
  split
  · rw [b4]
  · rfl

end Go.Proofs.Ytcbgnikbaepkaaa
