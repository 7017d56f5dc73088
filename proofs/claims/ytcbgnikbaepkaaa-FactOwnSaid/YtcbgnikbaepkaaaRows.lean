/-
  No cell of these rows narrows 'for every input' (looked for: loops, veiled, ifaces, maps, wideKeys, modest, calm, conditions, laid).
  DERIVED. THE GIVEN ROWS OF THIS SEAT. 6 by the template 'for every input the law returns true; each argument reads behind the call as it read before'; 0 by the template 'total and deterministic' (their statements: YtcbgnikbaepkaaaTotals.lean).
  GIVEN WITH THE SEED: the statements are not yours to turn. If you find one false, say at which input.
  Laid BY PROGRAM, IN A SANDBOX (cutbox-rows.mjs): the forced cells as the released guide's own fill.sh prints them over the translation b99734ba96b189d3… (all of the seat's roots in one cut). By AI agents, Wed Nov 11 2026. No macro, syntax, notation, axiom, sorry.
-/
import Derived.Test.YtcbgnikbaepkaaaChecked
import GoSem.Claim
import GoSem.ClaimJoined
import GoSem.ClaimMapViews
import Derived.JoinedTies
import Derived.KernelRfl
namespace Go.Proofs.Ytcbgnikbaepkaaa
/- THE CELL 'sum', in the pinned program and in every row, IS THE sha256 OF THE DUMP (.gsa) THAT YtcbgnikbaepkaaaProg.lean LOADS. Nothing in Lean hashes anything: it is a label: what it is worth is what the hold of that sum in a sandbox is worth. -/
noncomputable def Try.pinned : Pinned := { name := "ytcbgnikbaepkaaa", sum := "b99734ba96b189d32594e8b248f0952a498a102cf58979c3241fee49ee673d2c", checked := Try.checked }
namespace Rows
def none {H : Type} : Left H := { results := [], args := [] }

/-- 'gristmilllaw04.FactChecks': WHATEVER THE INPUT: true; the input reads as it did. -/
def factChecksSpec : ChangeSpec := { name := "factChecks", fn := fun _ => fun
  | [d1, d2, d3] => { results := [.lit (.bool true)], args := [d1, d2, d3] }
  | _ => none }
def factChecksRow : OpenClaim := { program := "ytcbgnikbaepkaaa", sum := "b99734ba96b189d32594e8b248f0952a498a102cf58979c3241fee49ee673d2c", func := "gristmill/gristmilllaw04.FactChecks", spec := "factChecks", unfollowed := true, recurses := true, apart := false }
def FactChecksSaid : Prop := factChecksRow.holds Try.pinned (OpenSpec.ofChange factChecksSpec)

/-- ITS FALSE NEIGHBOUR: 'it returns false'. Refute it at one input. -/
def factChecksWrong : ChangeSpec := { name := "factChecks", fn := fun _ => fun
  | [d1, d2, d3] => { results := [.lit (.bool false)], args := [d1, d2, d3] }
  | _ => none }
def FactChecksWrongFalsely : Prop := factChecksRow.holds Try.pinned (OpenSpec.ofChange factChecksWrong)

/-- 'gristmilllaw04.FactOrders': WHATEVER THE INPUT: true; the input reads as it did. -/
def factOrdersSpec : ChangeSpec := { name := "factOrders", fn := fun _ => fun
  | [d1, d2, d3, d4] => { results := [.lit (.bool true)], args := [d1, d2, d3, d4] }
  | _ => none }
def factOrdersRow : OpenClaim := { program := "ytcbgnikbaepkaaa", sum := "b99734ba96b189d32594e8b248f0952a498a102cf58979c3241fee49ee673d2c", func := "gristmill/gristmilllaw04.FactOrders", spec := "factOrders", unfollowed := true, recurses := true, apart := false }
def FactOrdersSaid : Prop := factOrdersRow.holds Try.pinned (OpenSpec.ofChange factOrdersSpec)

/-- ITS FALSE NEIGHBOUR: 'it returns false'. Refute it at one input. -/
def factOrdersWrong : ChangeSpec := { name := "factOrders", fn := fun _ => fun
  | [d1, d2, d3, d4] => { results := [.lit (.bool false)], args := [d1, d2, d3, d4] }
  | _ => none }
def FactOrdersWrongFalsely : Prop := factOrdersRow.holds Try.pinned (OpenSpec.ofChange factOrdersWrong)

/-- 'gristmilllaw04.FactSpans': WHATEVER THE INPUT: true; the input reads as it did. -/
def factSpansSpec : ChangeSpec := { name := "factSpans", fn := fun _ => fun
  | [d1, d2] => { results := [.lit (.bool true)], args := [d1, d2] }
  | _ => none }
def factSpansRow : OpenClaim := { program := "ytcbgnikbaepkaaa", sum := "b99734ba96b189d32594e8b248f0952a498a102cf58979c3241fee49ee673d2c", func := "gristmill/gristmilllaw04.FactSpans", spec := "factSpans", unfollowed := true, recurses := true, apart := false }
def FactSpansSaid : Prop := factSpansRow.holds Try.pinned (OpenSpec.ofChange factSpansSpec)

/-- ITS FALSE NEIGHBOUR: 'it returns false'. Refute it at one input. -/
def factSpansWrong : ChangeSpec := { name := "factSpans", fn := fun _ => fun
  | [d1, d2] => { results := [.lit (.bool false)], args := [d1, d2] }
  | _ => none }
def FactSpansWrongFalsely : Prop := factSpansRow.holds Try.pinned (OpenSpec.ofChange factSpansWrong)

/-- 'gristmilllaw04.FactOwn': WHATEVER THE INPUT: true; the input reads as it did. -/
def factOwnSpec : ChangeSpec := { name := "factOwn", fn := fun _ => fun
  | [d1, d2] => { results := [.lit (.bool true)], args := [d1, d2] }
  | _ => none }
def factOwnRow : OpenClaim := { program := "ytcbgnikbaepkaaa", sum := "b99734ba96b189d32594e8b248f0952a498a102cf58979c3241fee49ee673d2c", func := "gristmill/gristmilllaw04.FactOwn", spec := "factOwn", unfollowed := true, recurses := true, apart := false }
def FactOwnSaid : Prop := factOwnRow.holds Try.pinned (OpenSpec.ofChange factOwnSpec)

/-- ITS FALSE NEIGHBOUR: 'it returns false'. Refute it at one input. -/
def factOwnWrong : ChangeSpec := { name := "factOwn", fn := fun _ => fun
  | [d1, d2] => { results := [.lit (.bool false)], args := [d1, d2] }
  | _ => none }
def FactOwnWrongFalsely : Prop := factOwnRow.holds Try.pinned (OpenSpec.ofChange factOwnWrong)

/-- 'gristmilllaw04.FactBags': WHATEVER THE INPUT: true; the input reads as it did. -/
def factBagsSpec : ChangeSpec := { name := "factBags", fn := fun _ => fun
  | [d1, d2, d3] => { results := [.lit (.bool true)], args := [d1, d2, d3] }
  | _ => none }
def factBagsRow : OpenClaim := { program := "ytcbgnikbaepkaaa", sum := "b99734ba96b189d32594e8b248f0952a498a102cf58979c3241fee49ee673d2c", func := "gristmill/gristmilllaw04.FactBags", spec := "factBags", unfollowed := true, recurses := true, apart := false }
def FactBagsSaid : Prop := factBagsRow.holds Try.pinned (OpenSpec.ofChange factBagsSpec)

/-- ITS FALSE NEIGHBOUR: 'it returns false'. Refute it at one input. -/
def factBagsWrong : ChangeSpec := { name := "factBags", fn := fun _ => fun
  | [d1, d2, d3] => { results := [.lit (.bool false)], args := [d1, d2, d3] }
  | _ => none }
def FactBagsWrongFalsely : Prop := factBagsRow.holds Try.pinned (OpenSpec.ofChange factBagsWrong)

/-- 'gristmilllaw04.FactLaws': WHATEVER THE INPUT: true; the input reads as it did. -/
def factLawsSpec : ChangeSpec := { name := "factLaws", fn := fun _ => fun
  | [d1, d2, d3, d4] => { results := [.lit (.bool true)], args := [d1, d2, d3, d4] }
  | _ => none }
def factLawsRow : OpenClaim := { program := "ytcbgnikbaepkaaa", sum := "b99734ba96b189d32594e8b248f0952a498a102cf58979c3241fee49ee673d2c", func := "gristmill/gristmilllaw04.FactLaws", spec := "factLaws", unfollowed := true, recurses := true, apart := false }
def FactLawsSaid : Prop := factLawsRow.holds Try.pinned (OpenSpec.ofChange factLawsSpec)

/-- ITS FALSE NEIGHBOUR: 'it returns false'. Refute it at one input. -/
def factLawsWrong : ChangeSpec := { name := "factLaws", fn := fun _ => fun
  | [d1, d2, d3, d4] => { results := [.lit (.bool false)], args := [d1, d2, d3, d4] }
  | _ => none }
def FactLawsWrongFalsely : Prop := factLawsRow.holds Try.pinned (OpenSpec.ofChange factLawsWrong)

/- THE SECOND FORM. 'bulk': how many values and letters a reading holds, each counted each time it is reached (what is shared counts as often as it is met; a slice's spare places count too). A statement '..UptoSaid' is the law's where the arguments, and the package variables that the reading takes, are together of bulk at most 1048576: NARROWER than '..Said'. Prove '..Said' where nothing that the law and all that it calls make is longer than what came in: it says more and counts as full. Else prove '..UptoSaid'. A law counts once. -/
mutual
def uptoBulk {H : Type} : DataW H → Nat
  | .lit (.string bytes) => bytes.length + 1
  | .lit _ => 1
  | .nil => 1
  | .ptr d => uptoBulk d + 1
  | .slice elems spare => uptoBulkAll elems + uptoBulkAll spare + 1
  | .agg parts => uptoBulkAll parts + 1
  | .iface _ d => uptoBulk d + 1
  | .map entries => uptoBulkEntries entries + 1
  | .held _ => 1
def uptoBulkAll {H : Type} : List (DataW H) → Nat
  | [] => 0
  | d :: r => uptoBulk d + uptoBulkAll r
def uptoBulkEntries {H : Type} : List (Lit × DataW H) → Nat
  | [] => 0
  | x :: r => uptoBulkEntry x + uptoBulkEntries r
def uptoBulkEntry {H : Type} : Lit × DataW H → Nat
  | (.string bytes, d) => bytes.length + uptoBulk d + 1
  | (_, d) => uptoBulk d + 1
 end
def uptoSmall : (H : Type) → List (DataW H) → Bool := fun _ ds => decide (uptoBulkAll ds ≤ 1048576)
def OpenSpec.upto (s : _root_.Go.ChangeSpec) : _root_.Go.OpenSpec := { _root_.Go.OpenSpec.ofChange s with cond := some uptoSmall }

/-- 'gristmilllaw04.FactChecks', WHERE WHAT IT READS IS OF BULK AT MOST 1048576: true; the input reads as it did. -/
def factChecksUptoRow : OpenClaim := { program := "ytcbgnikbaepkaaa", sum := "b99734ba96b189d32594e8b248f0952a498a102cf58979c3241fee49ee673d2c", func := "gristmill/gristmilllaw04.FactChecks", spec := "factChecks", unfollowed := true, recurses := true, apart := false, narrowed := true }
def FactChecksUptoSaid : Prop := factChecksUptoRow.holds Try.pinned (OpenSpec.upto factChecksSpec)

/-- 'gristmilllaw04.FactOrders', WHERE WHAT IT READS IS OF BULK AT MOST 1048576: true; the input reads as it did. -/
def factOrdersUptoRow : OpenClaim := { program := "ytcbgnikbaepkaaa", sum := "b99734ba96b189d32594e8b248f0952a498a102cf58979c3241fee49ee673d2c", func := "gristmill/gristmilllaw04.FactOrders", spec := "factOrders", unfollowed := true, recurses := true, apart := false, narrowed := true }
def FactOrdersUptoSaid : Prop := factOrdersUptoRow.holds Try.pinned (OpenSpec.upto factOrdersSpec)

/-- 'gristmilllaw04.FactSpans', WHERE WHAT IT READS IS OF BULK AT MOST 1048576: true; the input reads as it did. -/
def factSpansUptoRow : OpenClaim := { program := "ytcbgnikbaepkaaa", sum := "b99734ba96b189d32594e8b248f0952a498a102cf58979c3241fee49ee673d2c", func := "gristmill/gristmilllaw04.FactSpans", spec := "factSpans", unfollowed := true, recurses := true, apart := false, narrowed := true }
def FactSpansUptoSaid : Prop := factSpansUptoRow.holds Try.pinned (OpenSpec.upto factSpansSpec)

/-- 'gristmilllaw04.FactOwn', WHERE WHAT IT READS IS OF BULK AT MOST 1048576: true; the input reads as it did. -/
def factOwnUptoRow : OpenClaim := { program := "ytcbgnikbaepkaaa", sum := "b99734ba96b189d32594e8b248f0952a498a102cf58979c3241fee49ee673d2c", func := "gristmill/gristmilllaw04.FactOwn", spec := "factOwn", unfollowed := true, recurses := true, apart := false, narrowed := true }
def FactOwnUptoSaid : Prop := factOwnUptoRow.holds Try.pinned (OpenSpec.upto factOwnSpec)

/-- 'gristmilllaw04.FactBags', WHERE WHAT IT READS IS OF BULK AT MOST 1048576: true; the input reads as it did. -/
def factBagsUptoRow : OpenClaim := { program := "ytcbgnikbaepkaaa", sum := "b99734ba96b189d32594e8b248f0952a498a102cf58979c3241fee49ee673d2c", func := "gristmill/gristmilllaw04.FactBags", spec := "factBags", unfollowed := true, recurses := true, apart := false, narrowed := true }
def FactBagsUptoSaid : Prop := factBagsUptoRow.holds Try.pinned (OpenSpec.upto factBagsSpec)

/-- 'gristmilllaw04.FactLaws', WHERE WHAT IT READS IS OF BULK AT MOST 1048576: true; the input reads as it did. -/
def factLawsUptoRow : OpenClaim := { program := "ytcbgnikbaepkaaa", sum := "b99734ba96b189d32594e8b248f0952a498a102cf58979c3241fee49ee673d2c", func := "gristmill/gristmilllaw04.FactLaws", spec := "factLaws", unfollowed := true, recurses := true, apart := false, narrowed := true }
def FactLawsUptoSaid : Prop := factLawsUptoRow.holds Try.pinned (OpenSpec.upto factLawsSpec)

end Rows
end Go.Proofs.Ytcbgnikbaepkaaa
