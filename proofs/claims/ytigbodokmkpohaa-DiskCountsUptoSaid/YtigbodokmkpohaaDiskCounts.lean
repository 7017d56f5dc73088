/-
  The statement DiskCounts of the layer 'disk', where what it reads is of bulk at most 2^20: the Go function returns true and leaves its arguments as they were.
  The walk is in the texts that it imports; here the arguments are opened and the row is closed.
-/
import Derived.Test.YtigbodokmkpohaaRows
import Derived.WalkKit
import Derived.ProofKit
import Derived.OpenShut
import Derived.ShutString
import Derived.ChangeOld
import Derived.Below
import Derived.JoinedCond
import Derived.Deep.Slices
import Derived.Deep.Fields
import Derived.Test.YtigbodokmkpohaaNl
namespace Go.Proofs.Ytigbodokmkpohaa.diskCounts
open Go.ChangeShapes Go.WideShapes Go.ChangeAt Go.RowKit
set_option linter.unusedVariables false

theorem own : ownKnob Try.prog.godebug = none := by kernel_rfl
theorem laidOut : laidOutB Try.prog = true := by kernel_rfl

theorem bulk_part {H : Type} {d : DataW H} {l : List (DataW H)} (h : d ∈ l) : Rows.uptoBulk d ≤ Rows.uptoBulkAll l := by
  induction l with
  | nil => cases h
  | cons x r ih =>
    simp only [Rows.uptoBulkAll]
    rcases List.mem_cons.1 h with e | e
    · subst e; omega
    · have := ih e; omega

theorem bulk_pos {H : Type} (d : DataW H) : 1 ≤ Rows.uptoBulk d := by
  cases d with
  | lit l => cases l <;> simp [Rows.uptoBulk]
  | _ => simp [Rows.uptoBulk]

theorem bulk_length {H : Type} (l : List (DataW H)) : l.length ≤ Rows.uptoBulkAll l := by
  induction l with
  | nil => simp [Rows.uptoBulkAll]
  | cons x r ih => have := bulk_pos x; simp only [Rows.uptoBulkAll, List.length_cons]; omega

section
variable {H : Type} {enc : TypeId × Value → H} {w : World} {base : Nat} {spare : Nat → Bool} {held : Bool}

/-- An operation's cells. -/
theorem open_op {fuel : Nat} {cs : List Value} {x : DataW H × List MemPlace} (h : DataW.trod enc Try.prog w base spare held fuel 44 cs = some x) :
    ∃ kd n a b v d, cs = [.int .i64 kd, .string a, .string b, v, .int .i64 n] ∧ (Lit.int .i64 kd).wf = true ∧ a.size ≤ maxLen ∧ b.size ≤ maxLen ∧ (∃ m p, DataW.trod enc Try.prog w base spare held m 22 [v] = some (d, p)) ∧ Rows.uptoBulk d ≤ Rows.uptoBulk x.1 := by
  obtain ⟨xs, n, _, rfl, hl, hlen, hf⟩ := DataW.trod_struct Try.underlying44 h
  have c44 : Try.prog.cellsOf 44 = 5 := by kernel_rfl
  have c3 : Try.prog.cellsOf 3 = 1 := by kernel_rfl
  have c9 : Try.prog.cellsOf 9 = 1 := by kernel_rfl
  have c22 : Try.prog.cellsOf 22 = 1 := by kernel_rfl
  rw [c44] at hl
  match cs, hl with
  | [v0, v1, v2, v3, v4], _ =>
    match xs, hlen with
    | [y0, y1, y2, y3, y4], _ =>
      have h0 := hf 0 _ rfl
      have h1 := hf 1 _ rfl
      have h2 := hf 2 _ rfl
      have h3 := hf 3 _ rfl
      have h4 := hf 4 _ rfl
      simp [c3, c9, c22] at h0 h1 h2 h3 h4
      obtain ⟨kd, e0, _, hw⟩ := DataW.trod_int Try.underlying3 h0
      obtain ⟨a, e1, _, ha⟩ := DataW.trod_string Try.underlying9 h1
      obtain ⟨b, e2, _, hb⟩ := DataW.trod_string Try.underlying9 h2
      obtain ⟨m, e4, _, _⟩ := DataW.trod_int Try.underlying3 h4
      cases e0; cases e1; cases e2; cases e4
      refine ⟨kd, m, a, b, v3, y3.1, rfl, hw, ha, hb, ⟨n, y3.2, h3⟩, ?_⟩
      have : y3.1 ∈ [y0.1, y1.1, y2.1, y3.1, y4.1] := by simp
      have := bulk_part this
      simp only [List.map_cons, List.map_nil, Rows.uptoBulk]
      omega

/-- The script: each operation's cells, wherever what came in is kept. -/
theorem open_ops {fuel : Nat} {a : Option Addr} {len cap : Nat} {x : DataW H × List MemPlace} (hb : Rows.uptoBulk x.1 ≤ 1048576) (h : DataW.trod enc Try.prog w base (fun _ => true) held fuel 34 [.slice a len cap] = some x) :
    len ≤ cap ∧ ∀ i, i < len → ∃ ad, a = some ad ∧ ∃ kd n a b x l, OpIs w kd n a b x l ∧ ∀ w', Keeps (fun _ => False) w w' → w'.cell? ((ad.add (i * 5)).add 0) = some (.int .i64 kd) ∧ w'.cell? ((ad.add (i * 5)).add 1) = some (.string a) ∧ w'.cell? ((ad.add (i * 5)).add 2) = some (.string b) ∧ w'.cell? ((ad.add (i * 5)).add 3) = some x ∧ w'.cell? ((ad.add (i * 5)).add 4) = some (.int .i64 n) := by
  rcases Go.Deep.open_slice Try.underlying34 h with ⟨hc, _⟩ | ⟨A, ln, cp, m, n, D, Pl, hcs, _, hle, _, hm, hx, hi⟩
  · cases hc
    exact ⟨Nat.le_refl _, fun i hi => by omega⟩
  · cases hcs
    refine ⟨hle, fun i hil => ⟨A, rfl, ?_⟩⟩
    simp only [if_true] at hm
    obtain ⟨cs', hcells, htr⟩ := hi i (by omega)
    obtain ⟨kd, q, a, b, v, d, rfl, hw, ha, hbz, ⟨m', p', hv⟩, hbulk⟩ := open_op htr
    have hD : Rows.uptoBulk (D i) ≤ 1048576 := by
      have h1 : D i ∈ (List.range len).map D := List.mem_map.2 ⟨i, List.mem_range.2 hil, rfl⟩
      have h2 := bulk_part h1
      rw [hx] at hb
      simp only [Rows.uptoBulk] at hb
      omega
    have hd : Rows.uptoBulk d ≤ 1048576 := Nat.le_trans hbulk hD
    rw [show Try.prog.cellsOf 44 = 5 by kernel_rfl] at hcells
    obtain ⟨_, _, hat⟩ := World.cells?_some hcells
    have hcell : ∀ j, j < 5 → w.cell? ((A.add (i * 5)).add j) = [Value.int .i64 kd, .string a, .string b, v, .int .i64 q][j]? := fun j hj => hat j hj
    have hkd : -9223372036854775808 ≤ kd ∧ kd ≤ 9223372036854775807 := by simpa [Lit.wf, IntKind.min, IntKind.max, IntKind.signed, IntKind.bits] using hw
    have keep : ∀ w', Keeps (fun _ => False) w w' → ∀ (ad : Addr) u, w.cell? ad = some u → w'.cell? ad = some u := fun w' hk ad u hu => by
      rw [← hu]; exact World.cell?_of_block (hk.block _ (World.block_lt_of_cell? w _ hu) id)
    -- the bytes
    obtain ⟨l, hl, hbytes, hown⟩ : ∃ l : List UInt8, l.length ≤ 1048576 ∧ (∀ w', Keeps (fun _ => False) w w' → Bytes w' v l) ∧ (l ≠ [] → ∀ k, v.ownBlock = some k → k < w.heap.size) := by
      rcases open_ints Try.underlying22 Try.underlying5 (by kernel_rfl) hv with ⟨hcs, _⟩ | ⟨X, ln, c, zs, hcs, _, hl, hm, hz, hx', hcl, hwz⟩
      · cases hcs
        exact ⟨[], Nat.zero_le _, fun w' _ => Bytes.nil w', fun _ k hk => by cases hk⟩
      · cases hcs
        simp only [if_true] at hz
        simp only [Prod.mk.injEq] at hx'
        have hln : ln ≤ 1048576 := by
          have h1 := bulk_length (lits (H := H) .u8 (zs.take ln))
          have h2 : Rows.uptoBulkAll (lits (H := H) .u8 (zs.take ln)) ≤ Rows.uptoBulk d := by rw [hx'.1]; simp only [Rows.uptoBulk]; omega
          have h3 : (lits (H := H) .u8 (zs.take ln)).length = ln := by simp [lits]; omega
          omega
        refine ⟨(zs.take ln).map fun z => UInt8.ofNat z.toNat, by simp; omega, fun w' hk => .inr ⟨X, c, by simp; omega, fun j u hu => ?_⟩, fun hne k hk => ?_⟩
        · have hj : j < ln := by
            have := (List.getElem?_eq_some_iff.1 hu).1
            simp [cellsOf] at this
            omega
          have hjz : j < zs.length := by omega
          have hu' : u = .int .u8 (zs.getD j 0) := by
            simp only [cellsOf, List.map_map, List.getElem?_map, List.getElem?_take, if_pos hj, List.getElem?_eq_getElem hjz, Option.map_some, Option.some.injEq] at hu
            rw [← hu]
            have hw := hwz zs[j] (List.getElem_mem _)
            have hr : 0 ≤ zs[j] ∧ zs[j] ≤ 255 := by simpa [Lit.wf, IntKind.min, IntKind.max, IntKind.signed, IntKind.bits] using hw
            simp only [Function.comp, List.getD, List.getElem?_eq_getElem hjz, Option.getD_some]
            congr 1
            simp
            omega
          rw [hu']
          exact keep w' hk _ _ (hcl j hjz)
        · have hz0 : 0 < zs.length := by
            rcases Nat.eq_zero_or_pos zs.length with h0 | h0
            · exact absurd (by rw [List.eq_nil_of_length_eq_zero h0]; simp) hne
            · exact h0
          have hb0 := World.block_lt_of_cell? w _ (hcl 0 hz0)
          cases hk
          exact hb0
    exact ⟨kd, q, a, b, v, l, ⟨hkd, by unfold maxLen at ha; omega, by unfold maxLen at hbz; omega, hbytes, hown, hl⟩, fun w' hk => ⟨keep w' hk _ _ (hcell 0 (by decide)), keep w' hk _ _ (hcell 1 (by decide)), keep w' hk _ _ (hcell 2 (by decide)), keep w' hk _ _ (hcell 3 (by decide)), keep w' hk _ _ (hcell 4 (by decide))⟩⟩
end

theorem contract (H : Type) (enc : TypeId × Value → H) (W : World) (base : Nat) (args : Array Value) (ds gs : List (DataW H)) (before : List MemPlace)
    (hval0 : ∀ (j : Nat) t v, Try.f4.params[j]? = some t → args[j]? = some v → Value.okWide Try.prog W .any base t v)
    (hW : DataW.Whole enc Try.prog Try.f4.params.toList Rows.diskCountsSpec.vars false W args.toList ds gs before) (hk : Rows.uptoSmall H (ds ++ gs) = true) :
    Calls Try.prog 4 args W fun e W' => ∃ v, e = .returned v ∧ Rows.diskCountsSpec.post enc Try.prog Try.f4 false true false false W args v W' := by
  have hval : ∀ (j : Nat) t v, Try.f4.params[j]? = some t → args[j]? = some v → Value.okWide Try.prog W .any base t v := hval0
  have hW' := hW
  obtain ⟨p, q, hA0, hV, rfl, hfz, hnd⟩ := hW
  have hA : DataW.TrodAll enc Try.prog W 0 (fun _ => true) true Try.f4.params.toList args.toList ds p := hA0
  rw [Try.params4] at hA hval
  obtain ⟨v0, vs0, d0, ds0, p0, q0, hargs, rfl, rfl, h0, r0⟩ := trodAll_cons hA
  obtain ⟨v1, vs1, d1, ds1, p1, q1, rfl, rfl, rfl, h1, r1⟩ := trodAll_cons r0
  obtain ⟨v2, vs2, d2, ds2, p2, q2, rfl, rfl, rfl, h2, r2⟩ := trodAll_cons r1
  obtain ⟨rfl, rfl, rfl⟩ := trodAll_nil r2
  obtain rfl : args = #[v0, v1, v2] := by cases args; simp_all
  obtain ⟨rfl, rfl⟩ := trodVars_none hV
  obtain ⟨a0, len0, cap0, rfl⟩ := okWide_slice Try.underlying34 (hval 0 34 v0 rfl rfl)
  obtain ⟨a1, rfl, rfl, rfl, w1⟩ := open_int Try.underlying3 (hval 1 3 v1 rfl rfl) h1
  obtain ⟨a2, rfl, rfl, rfl, w2⟩ := open_int Try.underlying3 (hval 2 3 v2 rfl rfl) h2
  have k0 := h0
  have lt0 : ∀ x ∈ p0, x.block < W.heap.size := by obtain ⟨m, hm⟩ := k0; exact DataW.trod_lt m _ _ _ hm
  have hb : Rows.uptoBulk d0 ≤ 1048576 := by
    have h := of_decide_eq_true hk
    simp only [List.cons_append, Rows.uptoBulkAll] at h
    omega
  obtain ⟨hlc, hops⟩ : len0 ≤ cap0 ∧ _ := by obtain ⟨fuel, hf⟩ := h0; exact open_ops hb hf
  have b1 : -9223372036854775808 ≤ a1 ∧ a1 ≤ 9223372036854775807 := by simpa [Lit.wf, IntKind.min, IntKind.max, IntKind.signed, IntKind.bits] using w1
  have b2 : -9223372036854775808 ≤ a2 ∧ a2 ≤ 9223372036854775807 := by simpa [Lit.wf, IntKind.min, IntKind.max, IntKind.signed, IntKind.bits] using w2
  clear hA0 hval0
  refine (diskCounts_walk a0 len0 cap0 a1 a2 W b1 b2 hops hlc).mono fun e W' ⟨he, hkp⟩ => ?_
  have bel : Below W.heap.size W W' := hkp.below (Nat.le_refl _) (fun k h => h.elim)
  subst he
  exact ⟨_, rfl, _, _, _, [], _, [], hW', trodAll_mk1 (shut_bool Try.underlying4 _), (trodAll_cons_mk (Below.trod laidOut (by kernel_rfl) (of_decide_eq_true (by kernel_rfl)) k0 bel lt0) (trodAll_cons_mk (shut_int Try.underlying3 w1) (trodAll_cons_mk (shut_int Try.underlying3 w2) trodAll_mk0))), rfl, bel.frame _, fun h => by cases h⟩

set_option maxRecDepth 100000 in
theorem lifted (os : Os) (started : os.Started) (H : Type) (enc : TypeId × Value → H) (F : Stop.Interp) :
    ReturnsInHanded {} Try.checked os 4 .any ((Rows.OpenSpec.upto Rows.diskCountsSpec).pre6 enc Try.prog Try.f4 Rows.diskCountsUptoRow.domain false) (((Rows.OpenSpec.upto Rows.diskCountsSpec).at F).post enc Try.prog Try.f4 false true false false) := by
  refine returnsInHanded_of_cond (C := Try.checked) (s := Rows.OpenSpec.upto Rows.diskCountsSpec) (k := Rows.uptoSmall) rfl own started (by kernel_rfl) Try.func4
    (OpenSpec.witness (enc := enc) (C := Try.checked) (s := Rows.OpenSpec.upto Rows.diskCountsSpec) (k := Rows.uptoSmall) rfl false ⟨#[], #[.slice none 0 0, .int .i64 0, .int .i64 0], []⟩ 8 (by kernel_rfl) (by kernel_rfl) (by kernel_rfl)
      (x := ([.nil, .lit (.int .i64 0), .lit (.int .i64 0)], [], [])) (by kernel_rfl) rfl (by kernel_rfl)) ?_
  intro W base args ds gs before hval hW _ hk _
  exact contract H enc W base args ds gs before hval hW hk

theorem over : Rows.diskCountsUptoRow.holds Try.pinned (Rows.OpenSpec.upto Rows.diskCountsSpec) :=
  OpenClaim.holds_of_cond 4 Try.f4 rfl rfl rfl rfl rfl rfl rfl ⟨rfl, rfl, rfl, rfl, rfl⟩ rfl rfl rfl rfl rfl (by kernel_rfl) Try.func4 (by kernel_rfl)
    (of_decide_eq_true (by kernel_rfl)) (by unfold Func.isWrapper; first | (rw [if_pos (by decide +kernel)]; kernel_rfl) | (rw [if_neg (by decide +kernel)]; exact ⟨rfl, rfl⟩))
    (fun os started H enc _ F => lifted os started H enc F)

/-- ████ THE STATEMENT ████ -/
theorem proved : Rows.DiskCountsUptoSaid := over
#print axioms proved
end Go.Proofs.Ytigbodokmkpohaa.diskCounts
