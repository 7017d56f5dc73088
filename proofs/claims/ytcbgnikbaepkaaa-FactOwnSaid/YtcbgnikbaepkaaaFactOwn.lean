/-
  The statement FactOwn of the layer 'fact': for any facts and any span the Go function returns true and leaves its arguments as they were. No condition.
  The walk is in the texts that it imports; here the arguments are opened and the row is closed.
-/
import Derived.Test.YtcbgnikbaepkaaaRows
import Derived.WalkKit
import Derived.ProofKit
import Derived.OpenShut
import Derived.ChangeOld
import Derived.Below
import Derived.Test.YtcbgnikbaepkaaaOp
import Derived.Test.YtcbgnikbaepkaaaOw
namespace Go.Proofs.Ytcbgnikbaepkaaa.factOwn
open Go.ChangeShapes Go.WideShapes Go.ChangeAt Go.RowKit
set_option linter.unusedVariables false

theorem own : ownKnob Try.prog.godebug = none := by kernel_rfl
theorem laidOut : laidOutB Try.prog = true := by kernel_rfl

/-- A span. -/
theorem open_span {H : Type} {enc : TypeId × Value → H} {w : World} {base : Nat} {held : Bool} {r : Reach} {b0 : Nat} {v : Value} {d : DataW H} {p : List MemPlace} (hv : Value.okWide Try.prog w r b0 44 v) (h : DataW.Trod enc Try.prog w base (fun _ => true) held 44 v d p) : ∃ a b, v = .agg #[.int .i64 a, .int .i64 b] := by
  obtain ⟨cs, rfl, hsz⟩ := okWide_struct Try.underlying44 hv
  obtain ⟨l⟩ := cs
  match l, hsz.trans (show Try.prog.cellsOf 44 = 2 by kernel_rfl) with
  | [c0, c1], _ =>
    obtain ⟨fuel, hf⟩ := h
    obtain ⟨xs, n, _, _, hlen, hxl, hg⟩ := DataW.trod_struct Try.underlying44 hf
    have c3 : Try.prog.cellsOf 2 = 1 := by kernel_rfl
    have h0 := hg 0 _ rfl
    have h1 := hg 1 _ rfl
    simp [Value.cells, c3] at h0 h1
    match xs, hxl with
    | [y0, y1], _ =>
      simp at h0 h1
      obtain ⟨a, e0, _, _⟩ := DataW.trod_int Try.underlying2 h0
      obtain ⟨b, e1, _, _⟩ := DataW.trod_int Try.underlying2 h1
      cases e0; cases e1
      exact ⟨a, b, rfl⟩

set_option maxRecDepth 100000 in
theorem lifted (os : Os) (started : os.Started) (H : Type) (enc : TypeId × Value → H) :
    ReturnsInHanded {} Try.checked os 6 .any (Rows.factOwnSpec.pre6 enc Try.prog Try.f6 Rows.factOwnRow.domain false) (Rows.factOwnSpec.post enc Try.prog Try.f6 false true false false) := by
  refine returnsInHanded_of_change_sized (C := Try.checked) own started (by kernel_rfl) Try.func6
    (ChangeSpec.witness6 (enc := enc) (C := Try.checked) false ⟨#[], #[.slice none 0 0, .agg #[.int .i64 0, .int .i64 0]], []⟩ 8 (by kernel_rfl) (by kernel_rfl) (by kernel_rfl) (by kernel_rfl)) ?_
  intro W base args ds gs before hval0 hW hcnd hsz0 _
  have hsz : (DataW.weightsEach Try.prog (Try.f6.params.toList ++ Rows.factOwnSpec.plain.varTypes Try.prog) (ds ++ gs)).all (· ≤ reachBytes) = true := hsz0
  clear hsz0
  have hval : ∀ (j : Nat) t v, Try.f6.params[j]? = some t → args[j]? = some v → Value.okWide Try.prog W .any base t v := hval0
  have hW' := hW
  obtain ⟨p, q, hA0, hV, rfl, hfz, hnd⟩ := hW
  have hA : DataW.TrodAll enc Try.prog W 0 (fun _ => true) true Try.f6.params.toList args.toList ds p := hA0
  rw [Try.params6] at hA hval hsz
  obtain ⟨v0, vs0, d0, ds0, p0, q0, hargs, rfl, rfl, h0, r0⟩ := trodAll_cons hA
  obtain ⟨v1, vs1, d1, ds1, p1, q1, rfl, rfl, rfl, h1, r1⟩ := trodAll_cons r0
  obtain ⟨rfl, rfl, rfl⟩ := trodAll_nil r1
  obtain rfl : args = #[v0, v1] := by cases args; simp_all
  obtain ⟨rfl, rfl⟩ := trodVars_none hV
  have hls : ∀ n ∈ DataW.weightsEach Try.prog [35, 44] [d0, d1], n ≤ reachBytes := by
    intro n hn
    have := List.all_eq_true.1 hsz n hn
    simpa using this
  obtain ⟨a0, len0, cap0, rfl⟩ := okWide_slice Try.underlying35 (hval 0 35 v0 rfl rfl)
  have k0 := h0
  have k1 := h1
  have lt0 : ∀ x ∈ p0, x.block < W.heap.size := by obtain ⟨m, hm⟩ := k0; exact DataW.trod_lt m _ _ _ hm
  have lt1 : ∀ x ∈ p1, x.block < W.heap.size := by obtain ⟨m, hm⟩ := k1; exact DataW.trod_lt m _ _ _ hm
  obtain ⟨l0, hl0, hr0⟩ : ∃ l : List Ro, l.length = len0 ∧ (len0 < 2199023255552 → FactsAt W (.slice a0 len0 cap0) l) := by
    obtain ⟨fuel, hf⟩ := h0
    obtain ⟨l, e1, e2, _⟩ := open_facts hf (each_light hls 0 _ _ rfl rfl)
    exact ⟨l, e1, e2⟩
  obtain ⟨fr1, to1, rfl⟩ := open_span (hval 1 44 v1 rfl rfl) h1
  clear hA0 hval0
  refine (own_law a0 len0 cap0 l0 fr1 to1 W hr0 hl0.symm).mono fun e W' ⟨he, hkp⟩ => ?_
  have bel := hkp.below
  subst he
  exact ⟨_, rfl, _, _, _, [], _, [], hW', trodAll_mk1 (shut_bool Try.underlying4 _), (trodAll_cons_mk (Below.trod laidOut (by kernel_rfl) (of_decide_eq_true (by kernel_rfl)) k0 bel lt0) (trodAll_cons_mk (Below.trod laidOut (by kernel_rfl) (of_decide_eq_true (by kernel_rfl)) k1 bel lt1) trodAll_mk0)), rfl, bel.frame _, fun h => by cases h⟩

theorem over : Rows.factOwnRow.holds Try.pinned (OpenSpec.ofChange Rows.factOwnSpec) :=
  OpenClaim.holds_of_wide 6 Try.f6 rfl rfl rfl rfl rfl rfl rfl ⟨rfl, rfl, rfl, rfl, rfl⟩ rfl rfl rfl rfl rfl (by kernel_rfl) Try.func6 (by kernel_rfl)
    (of_decide_eq_true (by kernel_rfl)) (by unfold Func.isWrapper; first | (rw [if_pos (by decide +kernel)]; kernel_rfl) | (rw [if_neg (by decide +kernel)]; exact ⟨rfl, rfl⟩))
    (fun os started H enc _ => lifted os started H enc)

/-- ████ THE STATEMENT ████ -/
theorem proved : Rows.FactOwnSaid := over
#print axioms proved
end Go.Proofs.Ytcbgnikbaepkaaa.factOwn
