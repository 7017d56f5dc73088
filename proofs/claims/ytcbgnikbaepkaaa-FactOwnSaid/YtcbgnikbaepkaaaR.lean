/- Equal rows, added up. No program. -/
import Derived.Test.YtcbgnikbaepkaaaP
namespace Go.Proofs.Ytcbgnikbaepkaaa
open Go.Shelf Go.RowKit Go.Lib Go.Sort Go.Proofs

/-- A row as a fact and a number. -/
def Ro.p (x : Ro) : Fa × Int := (x.f, x.n)

/-- One row more: the last one's number grows, or it stands behind. -/
def mergeStep (acc : List (Fa × Int)) (r : Fa × Int) : List (Fa × Int) :=
  match acc.getLast? with
  | some (g, m) => if cmpF g r.1 = 0 then acc.dropLast ++ [(g, IntKind.u64.wrap (m + r.2))] else acc ++ [r]
  | none => acc ++ [r]

def mergeP (l : List (Fa × Int)) : List (Fa × Int) := l.foldl mergeStep []

theorem mergeStep_nil (r : Fa × Int) : mergeStep [] r = [r] := rfl
theorem mergeStep_same {acc : List (Fa × Int)} {g : Fa} {m : Int} {r : Fa × Int} (h : cmpF g r.1 = 0) : mergeStep (acc ++ [(g, m)]) r = acc ++ [(g, IntKind.u64.wrap (m + r.2))] := by
  simp [mergeStep, h]
theorem mergeStep_more {acc : List (Fa × Int)} {g : Fa} {m : Int} {r : Fa × Int} (h : cmpF g r.1 ≠ 0) : mergeStep (acc ++ [(g, m)]) r = acc ++ [(g, m)] ++ [r] := by
  simp [mergeStep, h]

theorem mergeP_snoc (l : List (Fa × Int)) (r : Fa × Int) : mergeP (l ++ [r]) = mergeStep (mergeP l) r := by
  simp [mergeP, List.foldl_append]

end Go.Proofs.Ytcbgnikbaepkaaa
