/- bag, walked. -/
import Derived.Test.YtcbgnikbaepkaaaX
import Derived.Shelf.SlSortCmp.QuietGrown
namespace Go.Proofs.Ytcbgnikbaepkaaa
open Go.Shelf Go.RowKit Go.Lib Go.Sort Go.Proofs

/-- Rows as they come in. -/
structure RowsAt (w : World) (v : Value) (l : List Ro) : Prop where
  slice : ∃ a c, v = .slice a l.length c
  cells : ∀ a n c, v = .slice a n c → ∀ i, (hi : i < l.length) → ∃ A, a = some A ∧ ∀ j y, (l[i].enc)[j]? = some y → w.cell? ((A.add (i * 4)).add j) = some y
  ok : ∀ x ∈ l, x.ok w
  len : l.length < 2199023255552

theorem wpList_append_row' {ops : Array Oper} {rest : List Oper} {o : Oper} {a : Act} {Q : Exit → Act → World → Prop} (hgd : o.guard = none) (s x : Operand)
    (ho : o.op = Op.call { callee := Callee.builtin Builtin.append, args := #[s, x], argTypes := #[36, 36] }) (U : World) (base : Nat) (v : Value) (l : List Ro) (hs : a.eval s = v) (hown : OwnRows U base v l) (u : Ro)
    (hxv : a.eval x = .slice (some ⟨U.heap.size, 0, none⟩) 1 1) (hl : l.length < 2199023255552) (hbase : base ≤ U.heap.size)
    (h : ∀ (a' : Option Addr) (c' : Nat) (w' : World), OwnRows w' base (.slice a' (l.length + 1) c') (l ++ [u]) → (U.alloc (.cells #[.int .i64 u.f.time, .slice u.da u.dn u.dc, .slice u.ma u.mn u.mc, .int .u64 u.n] 40)).grownBy w' v.ownBlock →
      ((Value.slice a' (l.length + 1) c').ownBlock = v.ownBlock ∨ ∃ k, (Value.slice a' (l.length + 1) c').ownBlock = some k ∧ U.heap.size ≤ k) → wpList Try.prog ops Q rest (a.put o.dst (.slice a' (l.length + 1) c')) w') :
    wpList Try.prog ops Q (o :: rest) a (U.alloc (.cells #[.int .i64 u.f.time, .slice u.da u.dn u.dc, .slice u.ma u.mn u.mc, .int .u64 u.n] 40)) :=
  wpList_append_row hgd s x ho U base v l hs hown u hxv hl hbase h

theorem own_agg (f : Fa) (d m : Value) (w : World) (hf : FaAt w d m f) :
    Calls Try.prog 47 #[.agg #[.int .i64 f.time, d, m]] w fun e w' => ∃ a1 c1 a2 c2, e = .returned (.agg #[.int .i64 f.time, .slice a1 f.dims.length c1, .slice a2 f.meas.length c2]) ∧ (FaAt w' (.slice a1 f.dims.length c1) (.slice a2 f.meas.length c2) f ∧ (∀ k, (Value.slice a1 f.dims.length c1).ownBlock = some k → w.heap.size ≤ k) ∧ (∀ k, (Value.slice a2 f.meas.length c2).ownBlock = some k → w.heap.size ≤ k) ∧ SoftV w' (.slice a1 f.dims.length c1) ∧ SoftV w' (.slice a2 f.meas.length c2)) ∧ Kept w w' :=
  (own_is f d m w hf).mono fun _ _ ⟨a1, c1, a2, c2, he, hf, hk, h1, h2, s1, s2⟩ => ⟨a1, c1, a2, c2, he, ⟨hf, h1, h2, s1, s2⟩, hk⟩

theorem take_filter {l : List Ro} {p : Ro → Bool} {k : Nat} (h : k < l.length) : (l.take (k + 1)).filter p = (l.take k).filter p ++ if p l[k] then [l[k]] else [] := by
  rw [List.take_succ_eq_append_getElem h, List.filter_append]
  congr 1
  by_cases hp : p l[k] = true
  · rw [if_pos hp]; simp [hp]
  · rw [if_neg hp]; simp [hp]

theorem index_empty (a : Option Addr) (c : Nat) (w : World) : Calls Try.prog 55 #[.slice a 0 c, .func (.func 49) #[] #[]] w fun e w' => e = .returned (.int .i64 (-1)) ∧ w' = w := by
  go_enter Try.func55, Try.ntmps55
  go_wp2_with fail
  refine wp_loop_rounds 1 ?_
  rw [rounds_succ]
  go_wp2_with fail
  go_ret
  exact ⟨rfl, rfl⟩

theorem delete_empty (a : Option Addr) (c : Nat) (w : World) : Calls Try.prog 48 #[.slice a 0 c, .func (.func 49) #[] #[]] w fun e w' => e = .returned (.slice a 0 c) ∧ w' = w := by
  go_enter Try.func48, Try.ntmps48
  go_wp2_with (go_at_call 55; refine (index_empty _ _ _).mono ?_; rintro e w1 ⟨rfl, rfl⟩)
  go_ret
  exact ⟨rfl, rfl⟩

theorem cell_set4 {w : World} {B i j k n : Nat} {a b c d v : Value} {A : Addr} (hA : A.block ≠ B) (h : w.cell? A = some v) : ((((w.setCell ⟨B, i, none⟩ a).setCell ⟨B, j, none⟩ b).setCell ⟨B, k, none⟩ c).setCell ⟨B, n, none⟩ d).cell? A = some v := by
  rw [← h]
  exact World.cell?_of_block (by rw [Below.heap_setCell _ _ _ _ hA, Below.heap_setCell _ _ _ _ hA, Below.heap_setCell _ _ _ _ hA, Below.heap_setCell _ _ _ _ hA])

/-- The rows that are taken. -/
def taken (tk : Fa → Bool) (l : List Ro) : List (Fa × Int) := (l.filter fun x => tk x.f).map Ro.p

set_option maxHeartbeats 3200000 in
set_option maxRecDepth 100000 in
theorem bag_is (v : Value) (l : List Ro) (w : World) (tk : Fa → Bool) (t : Nat) (caps : Array Value) (h : RowsAt w v l)
    (ht : ∀ V, Kept w V → ∀ x, Ro.ok w x → Calls Try.prog t (#[faV x.f.time x.d x.m] ++ caps) V fun e w' => e = .returned (.bool (tk x.f)) ∧ Grows V w')
    (hsort : ∀ (wr : World) (g c : Nat) (rows : List Ro), Kept w wr → OwnRows wr w.heap.size (.slice (some ⟨g, 0, none⟩) rows.length c) rows → (∀ x ∈ rows, x.ok w) → rows.length ≤ l.length →
      Calls Try.prog 45 #[.slice (some ⟨g, 0, none⟩) rows.length c, .func (.func 46) #[] #[]] wr (Sorts w w.heap.size g rows.length c rows wr))
    (hent : ∀ args W, (callFunc t args).run Try.prog W = .ok (.enter t args) W) :
    Calls Try.prog 33 #[v, .func (.func t) #[] caps] w (BagIs w (taken tk l)) := by
  have mixed : Try.prog.follows .mixedOrders = true := by kernel_rfl
  obtain ⟨a, c, rfl⟩ := h.slice
  have hlen := h.len
  have HSORT := Lib.hid hsort
  clear hsort
  have HR := Lib.hid h
  have HT := Lib.hid ht
  clear h ht
  go_enter Try.func33, Try.ntmps33
  go_wp2_with fail
  go_loopw [5, 13] (fun o i wr => ∃ k : Nat, k ≤ l.length ∧ i = .int .i64 k ∧ Kept w wr ∧ OwnRows wr w.heap.size o ((l.take k).filter fun x => tk x.f)) (fun _ i _ => l.length - (intOf i).toNat)
  case atStart => exact ⟨0, by omega, rfl, Kept.refl _, OwnRows.nil _ _⟩
  case round =>
    obtain ⟨k, hk, rfl, hkp, hown⟩ := hrel
    have HKP := Lib.hid hkp
    have HOWN := Lib.hid hown
    clear hown
    by_cases hlt : k < l.length
    · obtain ⟨A, rfl, hc⟩ := HR.out.cells _ _ _ rfl k hlt
      obtain ⟨x, hx⟩ : ∃ x, x = l[k] := ⟨_, rfl⟩
      rw [← hx] at hc
      have x0 : wr.cell? (A.add (k * 4)) = some (.int .i64 x.f.time) := hkp.cell (hc 0 _ rfl)
      have x1 : wr.cell? ⟨(A.add (k * 4)).block, (A.add (k * 4)).off + 1, none⟩ = some (.slice x.da x.dn x.dc) := hkp.cell (hc 1 _ rfl)
      have x2 : wr.cell? ⟨(A.add (k * 4)).block, (A.add (k * 4)).off + 2, none⟩ = some (.slice x.ma x.mn x.mc) := hkp.cell (hc 2 _ rfl)
      have x3 : wr.cell? ⟨(A.add (k * 4)).block, (A.add (k * 4)).off + 3, none⟩ = some (.int .u64 x.n) := hkp.cell (hc 3 _ rfl)
      have HX := Lib.hid hx
      clear hx hc hkp
      go_wp2_with fail
      obtain ⟨U, hU⟩ : ∃ U, U = wr.alloc (.cells #[.int .i64 x.f.time, .slice x.da x.dn x.dc, .slice x.ma x.mn x.mc, .int .u64 x.n] 40) := ⟨_, rfl⟩
      have gU : Grows wr U := by rw [hU]; exact Grows.alloc _ _
      have bU : U.heap[wr.heap.size]? = some (.cells #[.int .i64 x.f.time, .slice x.da x.dn x.dc, .slice x.ma x.mn x.mc, .int .u64 x.n] 40 (0, 0)) := by rw [hU]; exact (MapKept.heap_alloc _ _).1
      rw [← hU]
      have hokx : Ro.ok w x := by rw [HX.out]; exact HR.out.ok _ (List.getElem_mem _)
      have hcall := HT.out U (HKP.out.trans gU.kept) x hokx
      obtain ⟨q, hq⟩ : ∃ q, q = tk x.f := ⟨_, rfl⟩
      rw [← hq] at hcall
      have HQ := Lib.hid hq
      have GU := Lib.hid gU
      have BU := Lib.hid bU
      refine Calls.mono hcall ?_
      rintro e w1 ⟨rfl, hg1⟩
      have hb1 := (hg1.block _ (Array.getElem?_eq_some_iff.1 BU.out).1).trans BU.out
      have G1 := Lib.hid hg1
      have y0 : w1.cell? ⟨wr.heap.size, 0, none⟩ = some (.int .i64 x.f.time) := by simp only [World.cell?, hb1]; rfl
      have y1 : w1.cell? ⟨wr.heap.size, 1, none⟩ = some (.slice x.da x.dn x.dc) := by simp only [World.cell?, hb1]; rfl
      have y2 : w1.cell? ⟨wr.heap.size, 2, none⟩ = some (.slice x.ma x.mn x.mc) := by simp only [World.cell?, hb1]; rfl
      have y3 : w1.cell? ⟨wr.heap.size, 3, none⟩ = some (.int .u64 x.n) := by simp only [World.cell?, hb1]; rfl
      clear hU gU bU hcall hq hg1 hb1 x0 x1 x2 x3
      cases q
      · go_wp2_with fail
        go_roundw
        case rel =>
          refine ⟨k + 1, by omega, by go_num, (HKP.out.trans GU.out.kept).trans G1.out.kept, ?_⟩
          rw [take_filter hlt, ← HX.out, ← HQ.out]
          simpa using (HOWN.out.grows GU.out).grows G1.out
        case measure => simp [intOf]; omega
      · have hown1 := (HOWN.out.grows GU.out).grows G1.out
        have hfl : ((l.take k).filter fun x => tk x.f).length < 2199023255552 := Nat.lt_of_le_of_lt (List.length_filter_le _ _) (by rw [List.length_take]; omega)
        have hb1 : w.heap.size ≤ w1.heap.size := Nat.le_trans HKP.out.size (Nat.le_trans GU.out.size G1.out.size)
        have HO1 := Lib.hid hown1
        clear hown1
        go_wp2_with (at_builtin; refine wpList_append_row' rfl _ _ rfl w1 w.heap.size u5 ((l.take k).filter fun x => tk x.f) rfl HO1.out x rfl hfl hb1 ?_; intro a' c' w2 hr hg hl2; have R2 := Lib.hid hr; have K2 := Lib.hid (kept_grownBy (((HKP.out.trans GU.out.kept).trans G1.out.kept).trans (Grows.alloc w1 _).kept) hg (fun k e => (HO1.out.lt e).1)); clear hr hg hl2)
        go_roundw
        case rel =>
          refine ⟨k + 1, by omega, by go_num, K2.out, ?_⟩
          rw [take_filter hlt, ← HX.out, ← HQ.out]
          exact R2.out
        case measure => simp [intOf]; omega
    · obtain rfl : k = l.length := by omega
      rw [List.take_length] at HOWN
      obtain ⟨rows, hrows⟩ : ∃ rows, rows = l.filter fun x => tk x.f := ⟨_, rfl⟩
      rw [← hrows] at HOWN
      have HROWS := Lib.hid hrows
      have HPS := Lib.hid (show taken tk l = rows.map Ro.p by unfold taken; rw [hrows])
      clear hrows hkp
      go_wp2_with fail
      by_cases hr0 : rows = []
      · subst hr0
        obtain ⟨a5, c5, h5⟩ := HOWN.out.slice
        simp only [List.length_nil] at h5
        subst h5
        refine (sort_empty a5 c5 wr).mono ?_
        rintro e w2 ⟨rfl, rfl⟩
        go_wp2_with fail
        refine wp_loop_rounds 1 ?_
        rw [rounds_succ]
        go_wp2_with fail
        refine (delete_empty a5 c5 _).mono ?_
        rintro e w2 ⟨rfl, rfl⟩
        go_wp2_with fail
        go_ret
        rw [HPS.out]
        exact bag_none HOWN.out HKP.out
      · obtain ⟨g, c', hu5⟩ : ∃ g c', u5 = .slice (some ⟨g, 0, none⟩) rows.length c' := by
          rcases HOWN.out.2 with ⟨h, hn⟩ | ⟨g, cap, cur, h, _⟩
          · exact absurd (List.eq_nil_of_length_eq_zero hn) hr0
          · exact ⟨g, cap, h⟩
        subst hu5
        have hlr : rows.length ≤ l.length := by rw [HROWS.out]; exact List.length_filter_le _ _
        have hok : ∀ x ∈ rows, x.ok w := fun x hx => HR.out.ok x (by rw [HROWS.out] at hx; exact (List.mem_filter.1 hx).1)
        refine (HSORT.out wr g c' rows HKP.out HOWN.out hok hlr).mono ?_
        rintro e w2 ⟨rfl, srt, s1, s2, s3, s4, s5, s6, s7, s8, s9⟩
        have hlo := (HOWN.out.lt (k := g) rfl).1
        have hk2 : Kept w w2 := ⟨s6.trans HKP.out.os, s7.trans HKP.out.tape, s8.trans HKP.out.output, Nat.le_trans HKP.out.size s5, fun k hk => (s9 k (Nat.lt_of_lt_of_le hk HKP.out.size) (by omega)).trans (HKP.out.block k hk)⟩
        have hsl : srt.length = rows.length := s2.length_eq
        have S1 := Lib.hid s1
        have S2 := Lib.hid s2
        have S3 := Lib.hid s3
        have S4 := Lib.hid s4
        have K2 := Lib.hid hk2
        have hs := half_start (by rw [hsl]; exact S1.out) K2.out
        have H0 := Lib.hid hs
        rw [← hsl] at hlr ⊢
        have hsz : srt.length < 2199023255552 := by omega
        have HSL := Lib.hid hsl
        clear s1 s2 s3 s4 s5 s6 s7 s8 s9 hk2 hok hs hsl hr0
        go_wp2_with fail
        go_loopw [8, 30] (fun mm i wr => ∃ k m : Nat, mm = .int .i64 m ∧ i = .int .i64 k ∧ m ≤ k ∧ k ≤ srt.length ∧ Half w g c' srt k m wr) (fun _ i _ => srt.length - (intOf i).toNat)
        case atStart => exact ⟨0, 0, rfl, rfl, Nat.le_refl _, Nat.zero_le _, H0.out⟩
        case round =>
          obtain ⟨k, m, rfl, rfl, hmk, hks, hhalf⟩ := hrel
          by_cases hlt2 : k < srt.length
          · obtain ⟨x, hx⟩ : ∃ x, srt[k]? = some x := ⟨_, List.getElem?_eq_getElem hlt2⟩
            obtain ⟨x0, x1, x2, x3⟩ := hhalf.row hx
            have HH := Lib.hid hhalf
            have HX := Lib.hid hx
            have hmm : m < srt.length := by omega
            have hgw : wr.heap.size ≠ g := Nat.ne_of_gt hhalf.lt.1
            clear hhalf hx
            go_wp2_with fail
            obtain ⟨U, hU⟩ : ∃ U, U = wr.alloc (.cells #[.int .i64 x.f.time, .slice x.da x.dn x.dc, .slice x.ma x.mn x.mc, .int .u64 x.n] 40) := ⟨_, rfl⟩
            have gU : Grows wr U := by rw [hU]; exact Grows.alloc _ _
            have bU : U.heap[wr.heap.size]? = some (.cells #[.int .i64 x.f.time, .slice x.da x.dn x.dc, .slice x.ma x.mn x.mc, .int .u64 x.n] 40 (0, 0)) := by rw [hU]; exact (MapKept.heap_alloc _ _).1
            rw [← hU]
            have GU := Lib.hid gU
            have BU := Lib.hid bU
            have hul : wr.heap.size < U.heap.size := (Array.getElem?_eq_some_iff.1 bU).1
            have hhU := HH.out.grows gU
            have HU := Lib.hid hhU
            clear hU gU bU x0 x1 x2 x3 HH
            have hxo : Ro.ok w x := S4.out x (List.mem_of_getElem? HX.out)
            have HXO := Lib.hid hxo
            clear hxo
            cases m with
            | zero =>
              have hgd : decide ((0 : Int) < (0 : Int)) = false := by decide
              go_quiet (fail)
              obtain ⟨V, hV⟩ : ∃ V, V = U.drewN nq := ⟨_, rfl⟩
              have gV : Grows U V := by rw [hV]; exact Grows.drewN _ _
              rw [← hV]
              have GV := Lib.hid gV
              have hhV := HU.out.grows gV
              have hbV := (gV.block _ hul).trans BU.out
              clear hgd
              have vx0 : V.cell? ⟨wr.heap.size, 0, none⟩ = some (.int .i64 x.f.time) := by simp only [World.cell?, hbV]; rfl
              have vx1 : V.cell? ⟨wr.heap.size, 1, none⟩ = some (.slice x.da x.dn x.dc) := by simp only [World.cell?, hbV]; rfl
              have vx2 : V.cell? ⟨wr.heap.size, 2, none⟩ = some (.slice x.ma x.mn x.mc) := by simp only [World.cell?, hbV]; rfl
              have vx3 : V.cell? ⟨wr.heap.size, 3, none⟩ = some (.int .u64 x.n) := by simp only [World.cell?, hbV]; rfl
              have hfx := FaAt.kept HXO.out (hhV.frame.trans (Grows.drew V).kept)
              have HFX := Lib.hid hfx
              have HV := Lib.hid (hhV.grows (Grows.drew V))
              have hmo : mergeStep (mergeP ((srt.take k).map Ro.p)) x.p = mergeP ((srt.take k).map Ro.p) ++ [x.p] := more_none hhV.zero0 _
              have HMO := Lib.hid hmo
              have p0 : (0 : Int) ≤ (0 : Int) := by omega
              have p1 : (0 : Int) < (srt.length : Int) := by omega
              have p2 : 0 < srt.length := by omega
              have p3 : ((0 : Int)).toNat = 0 := by omega
              clear hV gV hhV hbV hfx hmo
              go_wp2_with fail
              go_region_held3 (fun w' => w'.cell? ⟨wr.heap.size, 0, none⟩ = some (.int .i64 x.f.time) ∧ w'.cell? ⟨wr.heap.size, 1, none⟩ = some (.slice x.da x.dn x.dc) ∧ w'.cell? ⟨wr.heap.size, 2, none⟩ = some (.slice x.ma x.mn x.mc) ∧ w'.cell? ⟨wr.heap.size, 3, none⟩ = some (.int .u64 x.n)) (first | exact ⟨vx0, vx1, vx2, vx3⟩ | exact ⟨KO.out.cell vx0, KO.out.cell vx1, KO.out.cell vx2, KO.out.cell vx3⟩ | exact ⟨cell_set4 hgw (KO.out.cell vx0), cell_set4 hgw (KO.out.cell vx1), cell_set4 hgw (KO.out.cell vx2), cell_set4 hgw (KO.out.cell vx3)⟩)
                (first | (go_at_call 47; refine (own_agg x.f (.slice x.da x.dn x.dc) (.slice x.ma x.mn x.mc) _ HFX.out).mono ?_; rintro e w4 ⟨oa1, oc1, oa2, oc2, rfl, hfa, hko⟩; have KO := Lib.hid hko; have FA := Lib.hid hfa; (obtain ⟨zt, ⟨t0, t1, t2, t3⟩, tf0, tf1, tf2, tf3⟩ := (HV.out.kept hko).there p2); have HM := Lib.hid (HV.out.more (y := ⟨oa1, x.f.dims.length, oc1, oa2, x.f.meas.length, oc2, x.f, x.n⟩) HX.out hko rfl rfl ⟨hfa.1, hfa.2.2.2.1, hfa.2.2.2.2⟩ ⟨fun k e => ⟨hfa.2.1 k e, Nat.ne_of_gt (Nat.lt_of_lt_of_le HV.out.lt.1 (hfa.2.1 k e))⟩, fun k e => ⟨hfa.2.2.1 k e, Nat.ne_of_gt (Nat.lt_of_lt_of_le HV.out.lt.1 (hfa.2.2.1 k e))⟩⟩ HMO.out); clear hko hfa))
              clear vx0 vx1 vx2 vx3 tf0 tf1 tf2 tf3 t0 t1 t2 t3
              go_wp2_with fail
              go_roundw
              case rel => exact ⟨k + 1, 1, rfl, by go_num, by omega, by omega, HM.out⟩
              case measure => simp [intOf]; omega
            | succ m =>
              obtain ⟨z, zo, ⟨z0, z1, z2, z3⟩, zf, acc, hacc⟩ := hhU.last
              have hgl : g < U.heap.size := hhU.lt.1
              have a0 : ∀ n os, (grow (U.drewN n) os).cell? ⟨wr.heap.size, 0, none⟩ = some (.int .i64 x.f.time) := cell_grown hul (by simp only [World.cell?, BU.out]; rfl)
              have a1 : ∀ n os, (grow (U.drewN n) os).cell? ⟨wr.heap.size, 1, none⟩ = some (.slice x.da x.dn x.dc) := cell_grown hul (by simp only [World.cell?, BU.out]; rfl)
              have a2 : ∀ n os, (grow (U.drewN n) os).cell? ⟨wr.heap.size, 2, none⟩ = some (.slice x.ma x.mn x.mc) := cell_grown hul (by simp only [World.cell?, BU.out]; rfl)
              have b0 : ∀ n os, (grow (U.drewN n) os).cell? ⟨g, m * 4, none⟩ = some (.int .i64 z.f.time) := cell_grown hgl z0
              have b1 : ∀ n os, (grow (U.drewN n) os).cell? ⟨g, m * 4 + 1, none⟩ = some (.slice z.da z.dn z.dc) := cell_grown hgl z1
              have b2 : ∀ n os, (grow (U.drewN n) os).cell? ⟨g, m * 4 + 2, none⟩ = some (.slice z.ma z.mn z.mc) := cell_grown hgl z2
              have hc : ∀ n os, Calls Try.prog 14 #[.agg #[.int .i64 z.f.time, .slice z.da z.dn z.dc, .slice z.ma z.mn z.mc], .agg #[.int .i64 x.f.time, .slice x.da x.dn x.dc, .slice x.ma x.mn x.mc]] (grow (U.drewN n) os) fun e w' => e = .returned (.int .i64 (cmpF z.f x.f)) ∧ ∃ q os', w' = grow ((grow (U.drewN n) os).drewN q) os' := fun n os =>
                compare_is z.f x.f _ _ _ _ _ (FaAt.grows zo ⟨n, os, rfl⟩) (FaAt.grows (FaAt.kept HXO.out HU.out.frame) ⟨n, os, rfl⟩)
              have ZO := Lib.hid zo
              have HACC := Lib.hid hacc
              have wm : IntKind.i64.wrap (m : Int) = (m : Int) := by rw [IntKind.wrap_i64]; omega
              have m0 : (0 : Int) < (m : Int) + 1 := by omega
              have m1 : (m : Int) < (srt.length : Int) := by omega
              have gd : decide ((0 : Int) < (m : Int) + 1) = true := decide_eq_true m0
              clear zo z0 z1 z2 z3 zf hacc hhU
              by_cases hcm : cmpF z.f x.f = 0
              · have hq : (cmpF z.f x.f == 0) = true := by simpa using hcm
                have HCM := Lib.hid hcm
                clear hcm
                go_quiet_grown ((go_at_call 14; refine Calls.grown_of (hc _ _)))
                obtain ⟨V, hV⟩ : ∃ V, V = grow (U.drewN nq) osq := ⟨_, rfl⟩
                have gV : Grows U V := ⟨nq, osq, hV⟩
                change Exit.then _ _ _ _ (grow (U.drewN nq) osq)
                rw [← hV]
                have GV := Lib.hid gV
                have hhV := HU.out.grows gV
                have hbV := (gV.block _ hul).trans BU.out
                have v3 : V.cell? ⟨wr.heap.size, 3, none⟩ = some (.int .u64 x.n) := by simp only [World.cell?, hbV]; rfl
                obtain ⟨z', zo', ⟨z0', z1', z2', z3'⟩, zf', acc', hacc'⟩ := hhV.last
                have hz' : z'.n = z.n := by
                  have := hacc'.symm.trans HACC.out
                  obtain ⟨_, e2⟩ := List.append_inj' this rfl
                  injection e2 with e2
                  exact congrArg Prod.snd e2
                rw [hz'] at z3'
                have hst := HU.out.same HX.out (gV.trans (Grows.drew V)) HACC.out HCM.out
                have HST := Lib.hid hst
                clear hV gV hhV hbV hst zo' z0' z1' z2' hacc' hz' a0 a1 a2 b0 b1 b2 hc
                go_wp2_with fail
                go_still_tail 11, (by kernel_rfl)
                go_wp2_with fail
                go_roundw
                case rel => exact ⟨k + 1, m + 1, by go_num, by go_num, by omega, by omega, HST.out⟩
                case measure => simp [intOf]; omega
              · have hq : (cmpF z.f x.f == 0) = false := by simpa using hcm
                have HCM := Lib.hid hcm
                clear hcm
                go_quiet_grown ((go_at_call 14; refine Calls.grown_of (hc _ _)))
                obtain ⟨V, hV⟩ : ∃ V, V = grow (U.drewN nq) osq := ⟨_, rfl⟩
                have gV : Grows U V := ⟨nq, osq, hV⟩
                change Exit.then _ _ _ _ (grow (U.drewN nq) osq)
                rw [← hV]
                have GV := Lib.hid gV
                have hhV := HU.out.grows gV
                have hbV := (gV.block _ hul).trans BU.out
                clear a0 a1 a2 b0 b1 b2 hc gd hq
                have vx0 : V.cell? ⟨wr.heap.size, 0, none⟩ = some (.int .i64 x.f.time) := by simp only [World.cell?, hbV]; rfl
                have vx1 : V.cell? ⟨wr.heap.size, 1, none⟩ = some (.slice x.da x.dn x.dc) := by simp only [World.cell?, hbV]; rfl
                have vx2 : V.cell? ⟨wr.heap.size, 2, none⟩ = some (.slice x.ma x.mn x.mc) := by simp only [World.cell?, hbV]; rfl
                have vx3 : V.cell? ⟨wr.heap.size, 3, none⟩ = some (.int .u64 x.n) := by simp only [World.cell?, hbV]; rfl
                have hfx := FaAt.kept HXO.out (hhV.frame.trans (Grows.drew V).kept)
                have HFX := Lib.hid hfx
                have HV := Lib.hid (hhV.grows (Grows.drew V))
                have hmo : mergeStep (mergeP ((srt.take k).map Ro.p)) x.p = mergeP ((srt.take k).map Ro.p) ++ [x.p] := by rw [HACC.out]; exact mergeStep_more HCM.out
                have HMO := Lib.hid hmo
                have p0 : (0 : Int) ≤ (m : Int) + 1 := by omega
                have p1 : (m : Int) + 1 < (srt.length : Int) := by omega
                have p2 : m + 1 < srt.length := by omega
                have p3 : ((m : Int) + 1).toNat = m + 1 := by omega
                clear hV gV hhV hbV hfx hmo
                go_wp2_with fail
                go_region_held3 (fun w' => w'.cell? ⟨wr.heap.size, 0, none⟩ = some (.int .i64 x.f.time) ∧ w'.cell? ⟨wr.heap.size, 1, none⟩ = some (.slice x.da x.dn x.dc) ∧ w'.cell? ⟨wr.heap.size, 2, none⟩ = some (.slice x.ma x.mn x.mc) ∧ w'.cell? ⟨wr.heap.size, 3, none⟩ = some (.int .u64 x.n)) (first | exact ⟨vx0, vx1, vx2, vx3⟩ | exact ⟨KO.out.cell vx0, KO.out.cell vx1, KO.out.cell vx2, KO.out.cell vx3⟩ | exact ⟨cell_set4 hgw (KO.out.cell vx0), cell_set4 hgw (KO.out.cell vx1), cell_set4 hgw (KO.out.cell vx2), cell_set4 hgw (KO.out.cell vx3)⟩)
                  (first | (go_at_call 47; refine (own_agg x.f (.slice x.da x.dn x.dc) (.slice x.ma x.mn x.mc) _ HFX.out).mono ?_; rintro e w4 ⟨oa1, oc1, oa2, oc2, rfl, hfa, hko⟩; have KO := Lib.hid hko; have FA := Lib.hid hfa; (obtain ⟨zt, ⟨t0, t1, t2, t3⟩, tf0, tf1, tf2, tf3⟩ := (HV.out.kept hko).there p2); have HM := Lib.hid (HV.out.more (y := ⟨oa1, x.f.dims.length, oc1, oa2, x.f.meas.length, oc2, x.f, x.n⟩) HX.out hko rfl rfl ⟨hfa.1, hfa.2.2.2.1, hfa.2.2.2.2⟩ ⟨fun k e => ⟨hfa.2.1 k e, Nat.ne_of_gt (Nat.lt_of_lt_of_le HV.out.lt.1 (hfa.2.1 k e))⟩, fun k e => ⟨hfa.2.2.1 k e, Nat.ne_of_gt (Nat.lt_of_lt_of_le HV.out.lt.1 (hfa.2.2.1 k e))⟩⟩ HMO.out); clear hko hfa))
                clear vx0 vx1 vx2 vx3 tf0 tf1 tf2 tf3 t0 t1 t2 t3
                go_wp2_with fail
                go_roundw
                case rel => exact ⟨k + 1, m + 1 + 1, by go_num, by go_num, by omega, by omega, HM.out⟩
                case measure => simp [intOf]; omega
          · obtain rfl : k = srt.length := by omega
            obtain ⟨now, n1, n2, n3, n4, n5, n6⟩ := hhalf.done
            subst n1
            have hd := delete_is now n3 (by omega)
            have HD := Lib.hid hd
            have N4 := Lib.hid n4
            have N5 := Lib.hid n5
            have N6 := Lib.hid n6
            have n3c : now.length ≤ c' := by
              rcases n3.2 with ⟨he, _⟩ | ⟨g', cap, cur, he, h1, h2, h3, h4, h5, h6⟩
              · cases he
              · injection he with e1 e2 e3
                omega
            clear hd n3 n4 n5 n6 hhalf
            go_wp2_with fail
            refine HD.out.mono ?_
            intro e w3 hd
            have hbag : BagIs w (rows.map Ro.p) e w3 := bag_done (S2.out.map Ro.p) S3.out N4.out N5.out N6.out hlo hd
            have HB := Lib.hid hbag
            obtain ⟨rfl, _, _⟩ := hd
            clear hbag
            go_wp2_with fail
            go_ret
            rw [HPS.out]
            exact HB.out

end Go.Proofs.Ytcbgnikbaepkaaa
