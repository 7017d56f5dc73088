/-
  The statement FactLaws of the layer 'fact': for any three rows of facts and any span the Go function returns true and leaves its arguments as they were. No condition.
  The walk is in the texts that it imports; here the arguments are opened and the row is closed.
-/
import Derived.Test.YtcbgnikbaepkaaaRows
import Derived.WalkKit
import Derived.ProofKit
import Derived.OpenShut
import Derived.ChangeOld
import Derived.Below
import Derived.Test.YtcbgnikbaepkaaaOp
import Derived.Test.YtcbgnikbaepkaaaLw
namespace Go.Proofs.Ytcbgnikbaepkaaa.factLaws
open Go.ChangeShapes Go.WideShapes Go.ChangeAt Go.RowKit
set_option linter.unusedVariables false

theorem own : ownKnob Try.prog.godebug = none := by kernel_rfl
theorem laidOut : laidOutB Try.prog = true := by kernel_rfl

/-- A span. -/
theorem open_span {H : Type} {enc : TypeId × Value → H} {w : World} {base : Nat} {held : Bool} {r : Reach} {b0 : Nat} {v : Value} {d : DataW H} {p : List MemPlace} (hv : Value.okWide Try.prog w r b0 44 v) (h : DataW.Trod enc Try.prog w base (fun _ => true) held 44 v d p) : ∃ a b, v = .agg #[.int .i64 a, .int .i64 b] := by
  obtain ⟨cs, rfl, hsz⟩ := okWide_struct Try.underlying44 hv
  obtain ⟨l⟩ := cs
  match l, hsz.trans (show Try.prog.cellsOf 44 = 2 by kernel_rfl) with
  | [c0, c1], _ =>
    obtain ⟨fuel, hf⟩ := h
    obtain ⟨xs, n, _, _, hlen, hxl, hg⟩ := DataW.trod_struct Try.underlying44 hf
    have c3 : Try.prog.cellsOf 2 = 1 := by kernel_rfl
    have h0 := hg 0 _ rfl
    have h1 := hg 1 _ rfl
    simp [Value.cells, c3] at h0 h1
    match xs, hxl with
    | [y0, y1], _ =>
      simp at h0 h1
      obtain ⟨a, e0, _, _⟩ := DataW.trod_int Try.underlying2 h0
      obtain ⟨b, e1, _, _⟩ := DataW.trod_int Try.underlying2 h1
      cases e0; cases e1
      exact ⟨a, b, rfl⟩

/-- A nil slice has no room. -/
theorem open_none {H : Type} {enc : TypeId × Value → H} {w : World} {base : Nat} {held : Bool} {fuel : Nat} {a : Option Addr} {len cap : Nat} {x : DataW H × List MemPlace} (h : DataW.trod enc Try.prog w base (fun _ => true) held fuel 36 [.slice a len cap] = some x) : a = none → cap = 0 := by
  rcases Go.Deep.open_slice Try.underlying36 h with ⟨hc, _⟩ | ⟨A, ln, cp, m, n, D, Pl, hcs, _⟩
  · cases hc
    exact fun _ => rfl
  · cases hcs
    exact fun e => by cases e

set_option maxRecDepth 100000 in
theorem lifted (os : Os) (started : os.Started) (H : Type) (enc : TypeId × Value → H) :
    ReturnsInHanded {} Try.checked os 8 .any (Rows.factLawsSpec.pre6 enc Try.prog Try.f8 Rows.factLawsRow.domain false) (Rows.factLawsSpec.post enc Try.prog Try.f8 false true false false) := by
  refine returnsInHanded_of_change_sized (C := Try.checked) own started (by kernel_rfl) Try.func8
    (ChangeSpec.witness6 (enc := enc) (C := Try.checked) false ⟨#[], #[.slice none 0 0, .slice none 0 0, .slice none 0 0, .agg #[.int .i64 0, .int .i64 0]], []⟩ 8 (by kernel_rfl) (by kernel_rfl) (by kernel_rfl) (by kernel_rfl)) ?_
  intro W base args ds gs before hval0 hW hcnd hsz0 _
  have hsz : (DataW.weightsEach Try.prog (Try.f8.params.toList ++ Rows.factLawsSpec.plain.varTypes Try.prog) (ds ++ gs)).all (· ≤ reachBytes) = true := hsz0
  clear hsz0
  have hval : ∀ (j : Nat) t v, Try.f8.params[j]? = some t → args[j]? = some v → Value.okWide Try.prog W .any base t v := hval0
  have hW' := hW
  obtain ⟨p, q, hA0, hV, rfl, hfz, hnd⟩ := hW
  have hA : DataW.TrodAll enc Try.prog W 0 (fun _ => true) true Try.f8.params.toList args.toList ds p := hA0
  rw [Try.params8] at hA hval hsz
  obtain ⟨v0, vs0, d0, ds0, p0, q0, hargs, rfl, rfl, h0, r0⟩ := trodAll_cons hA
  obtain ⟨v1, vs1, d1, ds1, p1, q1, rfl, rfl, rfl, h1, r1⟩ := trodAll_cons r0
  obtain ⟨v2, vs2, d2, ds2, p2, q2, rfl, rfl, rfl, h2, r2⟩ := trodAll_cons r1
  obtain ⟨v3, vs3, d3, ds3, p3, q3, rfl, rfl, rfl, h3, r3⟩ := trodAll_cons r2
  obtain ⟨rfl, rfl, rfl⟩ := trodAll_nil r3
  obtain rfl : args = #[v0, v1, v2, v3] := by cases args; simp_all
  obtain ⟨rfl, rfl⟩ := trodVars_none hV
  have hls : ∀ n ∈ DataW.weightsEach Try.prog [36, 36, 36, 44] [d0, d1, d2, d3], n ≤ reachBytes := by
    intro n hn
    have := List.all_eq_true.1 hsz n hn
    simpa using this
  obtain ⟨a0, len0, cap0, rfl⟩ := okWide_slice Try.underlying36 (hval 0 36 v0 rfl rfl)
  obtain ⟨a1, len1, cap1, rfl⟩ := okWide_slice Try.underlying36 (hval 1 36 v1 rfl rfl)
  obtain ⟨a2, len2, cap2, rfl⟩ := okWide_slice Try.underlying36 (hval 2 36 v2 rfl rfl)
  have k0 := h0
  have k1 := h1
  have k2 := h2
  have k3 := h3
  have lt0 : ∀ x ∈ p0, x.block < W.heap.size := by obtain ⟨m, hm⟩ := k0; exact DataW.trod_lt m _ _ _ hm
  have lt1 : ∀ x ∈ p1, x.block < W.heap.size := by obtain ⟨m, hm⟩ := k1; exact DataW.trod_lt m _ _ _ hm
  have lt2 : ∀ x ∈ p2, x.block < W.heap.size := by obtain ⟨m, hm⟩ := k2; exact DataW.trod_lt m _ _ _ hm
  have lt3 : ∀ x ∈ p3, x.block < W.heap.size := by obtain ⟨m, hm⟩ := k3; exact DataW.trod_lt m _ _ _ hm
  obtain ⟨l0, hr0, hf0⟩ : ∃ l : List Ro, RowsIn W a0 len0 cap0 l ∧ Fit (l.map Ro.p) := by
    obtain ⟨fuel, hf⟩ := h0
    obtain ⟨l, e1, e2, e3⟩ := open_rows hf (each_light hls 0 _ _ rfl rfl)
    exact ⟨l, ⟨e2, e1.symm, open_none hf⟩, e3⟩
  obtain ⟨l1, hr1, hf1⟩ : ∃ l : List Ro, RowsIn W a1 len1 cap1 l ∧ Fit (l.map Ro.p) := by
    obtain ⟨fuel, hf⟩ := h1
    obtain ⟨l, e1, e2, e3⟩ := open_rows hf (each_light hls 1 _ _ rfl rfl)
    exact ⟨l, ⟨e2, e1.symm, open_none hf⟩, e3⟩
  obtain ⟨l2, hr2, hf2⟩ : ∃ l : List Ro, RowsIn W a2 len2 cap2 l ∧ Fit (l.map Ro.p) := by
    obtain ⟨fuel, hf⟩ := h2
    obtain ⟨l, e1, e2, e3⟩ := open_rows hf (each_light hls 2 _ _ rfl rfl)
    exact ⟨l, ⟨e2, e1.symm, open_none hf⟩, e3⟩
  obtain ⟨fr3, to3, rfl⟩ := open_span (hval 3 44 v3 rfl rfl) h3
  clear hA0 hval0
  refine (laws_is a0 len0 cap0 l0 a1 len1 cap1 l1 a2 len2 cap2 l2 fr3 to3 W hr0 hf0 hr1 hf1 hr2 hf2).mono fun e W' ⟨he, hkp⟩ => ?_
  have bel := hkp.below
  subst he
  exact ⟨_, rfl, _, _, _, [], _, [], hW', trodAll_mk1 (shut_bool Try.underlying4 _), (trodAll_cons_mk (Below.trod laidOut (by kernel_rfl) (of_decide_eq_true (by kernel_rfl)) k0 bel lt0) (trodAll_cons_mk (Below.trod laidOut (by kernel_rfl) (of_decide_eq_true (by kernel_rfl)) k1 bel lt1) (trodAll_cons_mk (Below.trod laidOut (by kernel_rfl) (of_decide_eq_true (by kernel_rfl)) k2 bel lt2) (trodAll_cons_mk (Below.trod laidOut (by kernel_rfl) (of_decide_eq_true (by kernel_rfl)) k3 bel lt3) trodAll_mk0)))), rfl, bel.frame _, fun h => by cases h⟩

theorem over : Rows.factLawsRow.holds Try.pinned (OpenSpec.ofChange Rows.factLawsSpec) :=
  OpenClaim.holds_of_wide 8 Try.f8 rfl rfl rfl rfl rfl rfl rfl ⟨rfl, rfl, rfl, rfl, rfl⟩ rfl rfl rfl rfl rfl (by kernel_rfl) Try.func8 (by kernel_rfl)
    (of_decide_eq_true (by kernel_rfl)) (by unfold Func.isWrapper; first | (rw [if_pos (by decide +kernel)]; kernel_rfl) | (rw [if_neg (by decide +kernel)]; exact ⟨rfl, rfl⟩))
    (fun os started H enc _ => lifted os started H enc)

/-- ████ THE STATEMENT ████ -/
theorem proved : Rows.FactLawsSaid := over
#print axioms proved
end Go.Proofs.Ytcbgnikbaepkaaa.factLaws
