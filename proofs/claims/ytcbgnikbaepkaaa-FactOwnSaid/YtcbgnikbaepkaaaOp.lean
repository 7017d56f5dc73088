/- The arguments opened. -/
import Derived.Test.YtcbgnikbaepkaaaAw
import Derived.ProofKit
import Derived.OpenShut
import Derived.ChangeOld
import Derived.Below
import Derived.Deep.Slices
import Derived.Deep.Fields
import Derived.SizedLaws
namespace Go.Proofs.Ytcbgnikbaepkaaa
open Go.ChangeShapes Go.WideShapes Go.ChangeAt Go.RowKit

theorem Kept.below {w w' : World} (h : Kept w w') : Below w.heap.size w w' := ⟨h.os, h.tape, h.output, h.size, h.block⟩

theorem list_of {α : Type} {p : Nat → α → Prop} : ∀ (n : Nat), (∀ i, i < n → ∃ a, p i a) → ∃ l : List α, l.length = n ∧ ∀ i (hi : i < l.length), p i l[i]
  | 0, _ => ⟨[], rfl, fun i hi => by simp at hi⟩
  | n + 1, h => by
    obtain ⟨l, hl, hp⟩ := list_of n (fun i hi => h i (by omega))
    obtain ⟨a, ha⟩ := h n (by omega)
    refine ⟨l ++ [a], by simp [hl], fun i hi => ?_⟩
    by_cases hlt : i < l.length
    · rw [List.getElem_append_left hlt]; exact hp i hlt
    · have e : i = n := by simp at hi; omega
      subst e
      rw [List.getElem_append_right (by omega)]
      simpa [hl] using ha

section
variable {H : Type} {enc : TypeId × Value → H} {w : World} {base : Nat} {held : Bool}

/-- What is read takes no more than the reach. -/
def Light (t : TypeId) (d : DataW H) : Prop := ∀ n ∈ d.weights Try.prog t, n ≤ reachBytes

theorem each_light : ∀ {ts : List TypeId} {ds : List (DataW H)}, (∀ n ∈ DataW.weightsEach Try.prog ts ds, n ≤ reachBytes) → ∀ (j : Nat) (t : TypeId) (d : DataW H), ts[j]? = some t → ds[j]? = some d → Light t d
  | [], _, _, j, t, d, ht, _ => by simp at ht
  | _ :: _, [], _, j, t, d, _, hd => by simp at hd
  | t0 :: ts, d0 :: ds, h, j, t, d, ht, hd => by
    simp only [DataW.weightsEach, List.mem_append] at h
    cases j with
    | zero => cases ht; cases hd; exact fun n hn => h n (.inl hn)
    | succ j => exact each_light (fun n hn => h n (.inr hn)) j t d (by simpa using ht) (by simpa using hd)

theorem all_light {e : TypeId} : ∀ {ds : List (DataW H)}, (∀ n ∈ DataW.weightsAll Try.prog e ds, n ≤ reachBytes) → ∀ d ∈ ds, Light e d
  | [], _, d, hd => by simp at hd
  | d0 :: ds, h, d, hd => by
    simp only [DataW.weightsAll, List.mem_append] at h
    rcases List.mem_cons.1 hd with e | e
    · rw [e]; exact fun n hn => h n (.inl hn)
    · exact all_light (fun n hn => h n (.inr hn)) d e

theorem slice_light {t e : TypeId} {elems spare : List (DataW H)} (ht : Try.prog.underlying t = some (.slice e)) (h : Light t (.slice elems spare)) : (elems.length + spare.length) * Try.prog.bytesOf e ≤ reachBytes ∧ ∀ d ∈ elems, Light e d := by
  unfold Light at h
  simp only [DataW.weights, ht] at h
  exact ⟨h _ List.mem_cons_self, all_light fun n hn => h n (List.mem_cons_of_mem _ (List.mem_append_left _ hn))⟩

theorem open_strs {fuel : Nat} {v : Value} {x : DataW H × List MemPlace} (h : DataW.trod enc Try.prog w base (fun _ => true) held fuel 24 [v] = some x) (hl : Light 24 x.1) :
    ∃ (l : List ByteArray) (a : Option Addr) (c : Nat), v = .slice a l.length c ∧ Cells w v (l.map .string) ∧ l.length ≤ 8796093022208 := by
  rcases Go.Deep.open_slice1 Try.underlying24 (by kernel_rfl) h with ⟨hc, _⟩ | ⟨A, len, cap, m, n, V, D, Pl, hcs, _, hle, hcm, hm, hx, hi⟩
  · cases hc
    exact ⟨[], none, 0, rfl, .inl ⟨rfl, rfl⟩, by decide⟩
  · cases hcs
    simp only [if_true] at hm
    subst hm
    obtain ⟨l, hlen, hp⟩ := list_of (p := fun i (s : ByteArray) => w.cell? (A.add i) = some (.string s)) len fun i hil => by
      obtain ⟨h1, h2⟩ := hi i (by omega)
      obtain ⟨s, hs, _⟩ := DataW.trod_string Try.underlying9 h2
      cases hs' : V i <;> simp_all
    have hb : len ≤ 8796093022208 := by
      rw [hx] at hl
      have := (slice_light Try.underlying24 hl).1
      rw [show Try.prog.bytesOf 9 = 16 by kernel_rfl] at this
      simp only [List.length_map, List.length_range, reachBytes] at this
      omega
    refine ⟨l, some A, _, by rw [hlen], .inr ⟨A, _, by rw [List.length_map, hlen], fun j u hu => ?_⟩, by omega⟩
    rw [List.getElem?_map] at hu
    have hj : j < l.length := by
      rcases Nat.lt_or_ge j l.length with h | h
      · exact h
      · rw [List.getElem?_eq_none h] at hu; simp at hu
    rw [List.getElem?_eq_getElem hj] at hu
    cases hu
    exact hp j hj

theorem open_int64s {fuel : Nat} {v : Value} {x : DataW H × List MemPlace} (h : DataW.trod enc Try.prog w base (fun _ => true) held fuel 25 [v] = some x) (hl : Light 25 x.1) :
    ∃ (l : List Int) (a : Option Addr) (c : Nat), v = .slice a l.length c ∧ Cells w v (l.map (.int .i64)) ∧ l.length ≤ 17592186044416 := by
  rcases Go.Deep.open_slice1 Try.underlying25 (by kernel_rfl) h with ⟨hc, _⟩ | ⟨A, len, cap, m, n, V, D, Pl, hcs, _, hle, hcm, hm, hx, hi⟩
  · cases hc
    exact ⟨[], none, 0, rfl, .inl ⟨rfl, rfl⟩, by decide⟩
  · cases hcs
    simp only [if_true] at hm
    subst hm
    obtain ⟨l, hlen, hp⟩ := list_of (p := fun i (s : Int) => w.cell? (A.add i) = some (.int .i64 s)) len fun i hil => by
      obtain ⟨h1, h2⟩ := hi i (by omega)
      obtain ⟨s, hs, _⟩ := DataW.trod_int Try.underlying2 h2
      cases hs' : V i <;> simp_all
    have hb : len ≤ 17592186044416 := by
      rw [hx] at hl
      have := (slice_light Try.underlying25 hl).1
      rw [show Try.prog.bytesOf 2 = 8 by kernel_rfl] at this
      simp only [List.length_map, List.length_range, reachBytes] at this
      omega
    refine ⟨l, some A, _, by rw [hlen], .inr ⟨A, _, by rw [List.length_map, hlen], fun j u hu => ?_⟩, by omega⟩
    rw [List.getElem?_map] at hu
    have hj : j < l.length := by
      rcases Nat.lt_or_ge j l.length with h | h
      · exact h
      · rw [List.getElem?_eq_none h] at hu; simp at hu
    rw [List.getElem?_eq_getElem hj] at hu
    cases hu
    exact hp j hj

/-- A fact's cells. -/
theorem open_fa {fuel : Nat} {cs : List Value} {x : DataW H × List MemPlace} (h : DataW.trod enc Try.prog w base (fun _ => true) held fuel 27 cs = some x) (hl : Light 27 x.1) :
    ∃ y : Ro, cs = [.int .i64 y.f.time, y.d, y.m] ∧ y.ok w ∧ y.n = 0 ∧ (Lit.int .i64 y.f.time).wf = true := by
  obtain ⟨xs, n, _, rfl, hlen, hxl, hf⟩ := DataW.trod_struct Try.underlying27 h
  have c27 : Try.prog.cellsOf 27 = 3 := by kernel_rfl
  have c2 : Try.prog.cellsOf 2 = 1 := by kernel_rfl
  have c24 : Try.prog.cellsOf 24 = 1 := by kernel_rfl
  have c25 : Try.prog.cellsOf 25 = 1 := by kernel_rfl
  rw [c27] at hlen
  match cs, hlen with
  | [v0, v1, v2], _ =>
    match xs, hxl with
    | [y0, y1, y2], _ =>
      have h0 := hf 0 _ rfl
      have h1 := hf 1 _ rfl
      have h2 := hf 2 _ rfl
      simp [c2, c24, c25] at h0 h1 h2
      have hl2 : ∀ n ∈ DataW.weightsEach Try.prog [2, 24, 25] [y0.1, y1.1, y2.1], n ≤ reachBytes := by
        unfold Light at hl
        simp only [DataW.weights, Try.underlying27] at hl
        exact hl
      obtain ⟨t, e0, _, hw⟩ := DataW.trod_int Try.underlying2 h0
      obtain ⟨dl, da, dc, e1, hd, hdl⟩ := open_strs h1 (each_light hl2 1 _ _ rfl rfl)
      obtain ⟨ml, ma, mc, e2, hm, hml⟩ := open_int64s h2 (each_light hl2 2 _ _ rfl rfl)
      cases e0
      subst e1 e2
      exact ⟨⟨da, dl.length, dc, ma, ml.length, mc, ⟨t, dl, ml⟩, 0⟩, rfl, ⟨hd, hm, hdl, hml⟩, rfl, hw⟩

/-- A schema. -/
theorem open_schema {r : Reach} {b0 : Nat} {v : Value} {d : DataW H} {p : List MemPlace} (hv : Value.okWide Try.prog w r b0 23 v) (h : DataW.Trod enc Try.prog w base (fun _ => true) held 23 v d p) : ∃ a b, v = .agg #[.int .i64 a, .int .i64 b] := by
  obtain ⟨cs, rfl, hsz⟩ := okWide_struct Try.underlying23 hv
  obtain ⟨l⟩ := cs
  match l, hsz.trans (show Try.prog.cellsOf 23 = 2 by kernel_rfl) with
  | [c0, c1], _ =>
    obtain ⟨fuel, hf⟩ := h
    obtain ⟨xs, n, _, _, hlen, hxl, hg⟩ := DataW.trod_struct Try.underlying23 hf
    have c3 : Try.prog.cellsOf 3 = 1 := by kernel_rfl
    have h0 := hg 0 _ rfl
    have h1 := hg 1 _ rfl
    simp [Value.cells, c3] at h0 h1
    match xs, hxl with
    | [y0, y1], _ =>
      simp at h0 h1
      obtain ⟨a, e0, _, _⟩ := DataW.trod_int Try.underlying3 h0
      obtain ⟨b, e1, _, _⟩ := DataW.trod_int Try.underlying3 h1
      cases e0; cases e1
      exact ⟨a, b, rfl⟩

/-- A fact, by value. -/
theorem open_fact {r : Reach} {b0 : Nat} {v : Value} {d : DataW H} {p : List MemPlace} (hv : Value.okWide Try.prog w r b0 27 v) (h : DataW.Trod enc Try.prog w base (fun _ => true) held 27 v d p) (hl : Light 27 d) : ∃ y : Ro, v = .agg #[.int .i64 y.f.time, y.d, y.m] ∧ y.ok w := by
  obtain ⟨cs, rfl, hsz⟩ := okWide_struct Try.underlying27 hv
  obtain ⟨fuel, hf⟩ := h
  obtain ⟨y, hy, hok, _, _⟩ := open_fa hf hl
  obtain ⟨l⟩ := cs
  refine ⟨y, ?_, hok⟩
  simp only [Value.cells] at hy
  rw [hy]

/-- A row's cells. -/
theorem open_many {fuel : Nat} {cs : List Value} {x : DataW H × List MemPlace} (h : DataW.trod enc Try.prog w base (fun _ => true) held fuel 40 cs = some x) (hl : Light 40 x.1) :
    ∃ y : Ro, cs = y.enc ∧ y.ok w ∧ wu y.n = y.n := by
  obtain ⟨xs, n, _, rfl, hlen, hxl, hf⟩ := DataW.trod_struct Try.underlying40 h
  have c40 : Try.prog.cellsOf 40 = 4 := by kernel_rfl
  have c27 : Try.prog.cellsOf 27 = 3 := by kernel_rfl
  have c38 : Try.prog.cellsOf 38 = 1 := by kernel_rfl
  rw [c40] at hlen
  match cs, hlen with
  | [v0, v1, v2, v3], _ =>
    match xs, hxl with
    | [y0, y1], _ =>
      have h0 := hf 0 _ rfl
      have h1 := hf 1 _ rfl
      simp [c27, c38] at h0 h1
      have hl2 : ∀ n ∈ DataW.weightsEach Try.prog [27, 38] [y0.1, y1.1], n ≤ reachBytes := by
        unfold Light at hl
        simp only [DataW.weights, Try.underlying40] at hl
        exact hl
      obtain ⟨y, e0, hok, _, _⟩ := open_fa h0 (each_light hl2 0 _ _ rfl rfl)
      obtain ⟨k, e1, _, hw⟩ := DataW.trod_int Try.underlying38 h1
      cases e0
      cases e1
      refine ⟨{ y with n := k }, rfl, hok, ?_⟩
      have hb : 0 ≤ k ∧ k ≤ 18446744073709551615 := by simpa [Lit.wf, IntKind.min, IntKind.max, IntKind.signed, IntKind.bits] using hw
      show wu k = k
      rw [wu_eq]; omega

/-- Rows that came in. -/
theorem open_rows {fuel : Nat} {a : Option Addr} {len cap : Nat} {x : DataW H × List MemPlace} (h : DataW.trod enc Try.prog w base (fun _ => true) held fuel 36 [.slice a len cap] = some x) (hl : Light 36 x.1) :
    ∃ l : List Ro, l.length = len ∧ RowsAt w (.slice a len cap) l ∧ Fit (l.map Ro.p) := by
  rcases Go.Deep.open_slice Try.underlying36 h with ⟨hc, _⟩ | ⟨A, ln, cp, m, n, D, Pl, hcs, _, hle, hcm, hm, hx, hi⟩
  · cases hc
    exact ⟨[], rfl, ⟨⟨none, 0, rfl⟩, (fun _ _ _ _ i hi => by simp at hi), (fun x hx => by cases hx), by decide⟩, (fun p hp => by cases hp)⟩
  · cases hcs
    simp only [if_true] at hm
    subst hm
    rw [hx] at hl
    obtain ⟨hb, hel⟩ := slice_light Try.underlying36 hl
    rw [show Try.prog.bytesOf 40 = 64 by kernel_rfl] at hb
    simp only [List.length_map, List.length_range, reachBytes] at hb
    obtain ⟨l, hlen, hp⟩ := list_of (p := fun i (y : Ro) => (∀ j u, (y.enc)[j]? = some u → w.cell? ((A.add (i * 4)).add j) = some u) ∧ y.ok w ∧ wu y.n = y.n) len fun i hil => by
      obtain ⟨cs', hcells, htr⟩ := hi i (by omega)
      have hD : Light 40 (D i) := hel _ (List.mem_map.2 ⟨i, List.mem_range.2 hil, rfl⟩)
      obtain ⟨y, rfl, hok, hn⟩ := open_many htr hD
      rw [show Try.prog.cellsOf 40 = 4 by kernel_rfl] at hcells
      obtain ⟨_, _, hat⟩ := World.cells?_some hcells
      refine ⟨y, fun j u hu => ?_, hok, hn⟩
      have hj : j < 4 := by
        have := (List.getElem?_eq_some_iff.1 hu).1
        simpa [Ro.enc] using this
      rw [hat j hj]
      exact hu
    refine ⟨l, hlen, ⟨⟨some A, _, by rw [hlen]⟩, fun a' n' c' hv i hi2 => ?_, fun x hx => ?_, by omega⟩, fun p hp2 => ?_⟩
    · cases hv
      exact ⟨A, rfl, (hp i hi2).1⟩
    · obtain ⟨i, hi2, rfl⟩ := List.getElem_of_mem hx
      exact (hp i hi2).2.1
    · obtain ⟨y, hy, rfl⟩ := List.mem_map.1 hp2
      obtain ⟨i, hi2, rfl⟩ := List.getElem_of_mem hy
      exact (hp i hi2).2.2

/-- Facts that came in. -/
theorem open_facts {fuel : Nat} {a : Option Addr} {len cap : Nat} {x : DataW H × List MemPlace} (h : DataW.trod enc Try.prog w base (fun _ => true) held fuel 35 [.slice a len cap] = some x) (hl : Light 35 x.1) :
    ∃ l : List Ro, l.length = len ∧ (len < 2199023255552 → FactsAt w (.slice a len cap) l) ∧ len ≤ 2513169434917 := by
  rcases Go.Deep.open_slice Try.underlying35 h with ⟨hc, _⟩ | ⟨A, ln, cp, m, n, D, Pl, hcs, _, hle, hcm, hm, hx, hi⟩
  · cases hc
    exact ⟨[], rfl, fun _ => ⟨⟨none, 0, rfl⟩, (fun _ _ _ _ i hi => by simp at hi), (fun x hx => by cases hx), by decide⟩, by decide⟩
  · cases hcs
    simp only [if_true] at hm
    subst hm
    rw [hx] at hl
    obtain ⟨hb, hel⟩ := slice_light Try.underlying35 hl
    rw [show Try.prog.bytesOf 27 = 56 by kernel_rfl] at hb
    simp only [List.length_map, List.length_range, reachBytes] at hb
    obtain ⟨l, hlen, hp⟩ := list_of (p := fun i (y : Ro) => (∀ j u, [Value.int .i64 y.f.time, y.d, y.m][j]? = some u → w.cell? ((A.add (i * 3)).add j) = some u) ∧ y.ok w) len fun i hil => by
      obtain ⟨cs', hcells, htr⟩ := hi i (by omega)
      have hD : Light 27 (D i) := hel _ (List.mem_map.2 ⟨i, List.mem_range.2 hil, rfl⟩)
      obtain ⟨y, rfl, hok, hn, _⟩ := open_fa htr hD
      rw [show Try.prog.cellsOf 27 = 3 by kernel_rfl] at hcells
      obtain ⟨_, _, hat⟩ := World.cells?_some hcells
      refine ⟨y, fun j u hu => ?_, hok⟩
      have hj : j < 3 := by
        have := (List.getElem?_eq_some_iff.1 hu).1
        simpa using this
      rw [hat j hj]
      exact hu
    refine ⟨l, hlen, fun hlt => ⟨⟨some A, _, by rw [hlen]⟩, fun a' n' c' hv i hi2 => ?_, fun x hx => ?_, by omega⟩, by omega⟩
    · cases hv
      have hc := (hp i hi2).1
      exact ⟨A, rfl, hc 0 _ rfl, hc 1 _ rfl, hc 2 _ rfl⟩
    · obtain ⟨i, hi2, rfl⟩ := List.getElem_of_mem hx
      exact (hp i hi2).2
end

end Go.Proofs.Ytcbgnikbaepkaaa
