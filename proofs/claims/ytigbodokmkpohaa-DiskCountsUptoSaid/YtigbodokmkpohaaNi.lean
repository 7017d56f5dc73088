/- Append, noted: a new file. -/
import Derived.Test.YtigbodokmkpohaaNg
namespace Go.Proofs.Ytigbodokmkpohaa
open Go.RowKit

theorem cells_one (w : World) (u : Value) (e : TypeId) : Cells (w.alloc (.cells #[u] e)) (.slice (some ⟨w.heap.size, 0, none⟩) 1 1) [u] := by
  refine .inr ⟨⟨w.heap.size, 0, none⟩, 1, rfl, fun j x hx => ?_⟩
  have h0 := (MapKept.heap_alloc w (.cells #[u] e)).1
  match j with
  | 0 =>
    cases hx
    have e1 : (⟨w.heap.size, 0, none⟩ : Addr).add 0 = ⟨w.heap.size, 0, none⟩ := rfl
    rw [e1]
    simp only [World.cell?, h0]; rfl
  | j + 1 => simp at hx

theorem wpList_push {P : Program} {ops : Array Oper} {rest : List Oper} {o : Oper} {a : Act} {Q : Exit → Act → World → Prop} (hgd : o.guard = none) (s x : Operand) (t : TypeId)
    (ho : o.op = Op.call { callee := Callee.builtin Builtin.append, args := #[s, x], argTypes := #[t, t] }) (U : World) (base e : Nat) (i : TypeInfo) (z : Value) (bytes : Nat)
    (ht : P.underlying t = some (.slice e)) (hi : P.info? e = some i) (hz : i.zero = some z) (hsize : i.size = 1) (hby : i.bytes = bytes) (hzs : z.cells.size = 1)
    (v : Value) (xs : List Value) (hs : a.eval s = v) (hown : WRow U base e v xs) (u : Value) (N : Nat) (hxv : a.eval x = .slice (some ⟨N, 0, none⟩) 1 1) (hN : N = U.heap.size) (h1 : u.oneCell' = true)
    (hb : bytes ≤ 16) (h63 : xs.length ≤ 1000) (hbase : base ≤ U.heap.size) (n : Nat) (hn : n = xs.length + 1)
    (h : ∀ (a' : Option Addr) (c' : Nat) (w' : World), WRow w' base e (.slice a' n c') (xs ++ [u]) → (U.alloc (.cells #[u] e)).grownBy w' v.ownBlock →
      ((Value.slice a' n c').ownBlock = v.ownBlock ∨ ∃ k, (Value.slice a' n c').ownBlock = some k ∧ U.heap.size ≤ k) → wpList P ops Q rest (a.put o.dst (.slice a' n c')) w') :
    wpList P ops Q (o :: rest) a (U.alloc (.cells #[u] e)) := by
  subst hN
  refine wpList_append_w _ hgd s x t ho base e i z bytes ht hi hz hsize hby hzs v xs hs (hown.same fun k hk => Below.heap_alloc U _ _ (hown.lt hk).2.1) _ [u] hxv (cells_one U u e) (by simpa using h1) ?_ (by simp; omega) (Nat.le_trans hbase (by simp)) n (by simpa using hn) ?_
  · have : (xs.length + [u].length) * bytes ≤ 1001 * 16 := Nat.mul_le_mul (by simp; omega) hb
    omega
  · intro a' c' w' r1 r2 r3
    exact h a' c' w' r1 r2 (r3.imp id fun e => ⟨_, e, by simp⟩)

/-- One row of the book is appended to: what stays. -/
theorem push_one {U w2 : World} {base K j e e' : Nat} {v v' u : Value} {xs ys : List Value} {cs : Array Value} (hc : U.heap[K]? = some (.cells cs 39 (0, 0))) (hrow : WRow U base e v xs) (he : e ≠ 39)
    (hg : (U.alloc (.cells #[u] e')).grownBy w2 v.ownBlock) (hr2 : WRow w2 base e v' ys) :
    w2.heap[K]? = some (.cells cs 39 (0, 0)) ∧ (w2.setCell ⟨K, j, none⟩ v').heap[K]? = some (.cells (cs.setIfInBounds j v') 39 (0, 0)) ∧ WRow (w2.setCell ⟨K, j, none⟩ v') base e v' ys ∧
      Keeps (fun b => b = K ∨ v.ownBlock = some b) U (w2.setCell ⟨K, j, none⟩ v') := by
  have hKlt := (Array.getElem?_eq_some_iff.1 hc).1
  obtain ⟨h1, h2, h3, h4⟩ := field_fin (j := j) ((Below.heap_alloc U (.cells #[u] e') _ hKlt).trans hc) (hrow.same (fun k hk => Below.heap_alloc U (.cells #[u] e') _ (hrow.lt hk).2.1)) he hg hr2
  exact ⟨h1, h2, h3, (Keeps.alloc _ U _).trans h4⟩

set_option maxHeartbeats 3200000 in
set_option maxRecDepth 100000 in
theorem note_new0 (base K D M : Nat) (S : DS) (bn bb : List ByteArray) (bs : List Int) (v0 v1 v2 : Value) (P : ByteArray → Prop) (k : Nat) (kd n : Int) (a b s : ByteArray) (x : Value) (l : List UInt8) (w : World) (hb : BGood w base K bn bb bs v0 v1 v2 P k) (hd : DGood w base D M S P k) (hk : k ≤ 90) (hbase : base ≤ w.heap.size)
    (hkd : -9223372036854775808 ≤ kd ∧ kd ≤ 9223372036854775807) (ha : a.size ≤ 9223372036854775807) (hx : Bytes w x l) (hxl : l ≠ [] → ∀ k, x.ownBlock = some k → k < base) (hl : l.length ≤ 1048576) (h3 : absN kd % 6 = 0) (hs : s = five (a.size % 5)) (hp : ¬ P s) :
    Calls Try.prog 15 #[.pointer (some ⟨K, 0, none⟩), .pointer (some ⟨D, 0, none⟩), opV kd a b x n] w fun e w' => ∃ r, e = .returned (.bool r) ∧ NRes w base K D M S v0 v1 v2 (fun t => P t ∨ t = s) True k r w' := by
  unfold opV
  obtain ⟨i9, hi9, hz9, ho9, hb9⟩ := info_parts Try.info9
  obtain ⟨i3, hi3, hz3, ho3, hb3⟩ := info_parts Try.info3
  obtain ⟨a0, c0, hv0⟩ := hb.is.names.slice
  obtain ⟨a1, c1, hv1⟩ := hb.is.bytes.slice
  obtain ⟨a2, c2, hv2⟩ := hb.is.synced.slice
  simp only [List.length_map, hb.is.len.1, hb.is.len.2] at hv0 hv1 hv2
  subst hv0 hv1 hv2
  have hO : (w.alloc (.cells #[.int .i64 kd, .string a, .string b, x, .int .i64 n] 44)).heap[w.heap.size]? = some (.cells #[.int .i64 kd, .string a, .string b, x, .int .i64 n] 44 (0, 0)) := (MapKept.heap_alloc _ _).1
  have hK0 : Keeps (fun _ => False) w (w.alloc (.cells #[.int .i64 kd, .string a, .string b, x, .int .i64 n] 44)) := Keeps.alloc _ _ _
  have key : ∀ W, Keeps (fun _ => False) (w.alloc (.cells #[.int .i64 kd, .string a, .string b, x, .int .i64 n] 44)) W → W.heap[w.heap.size]? = some (.cells #[.int .i64 kd, .string a, .string b, x, .int .i64 n] 44 (0, 0)) ∧ Keeps (fun _ => False) w W := fun W hW =>
    ⟨(hW.block _ (by simp) (fun h => h)).trans hO, hK0.trans hW⟩
  have key2 : ∀ W, Keeps (fun b => ¬ b < base) w W → ∀ V : World, V.heap = W.heap → (convert 22 9 x).run Try.prog V = .ok (.string ⟨l.toArray⟩) V := fun W hW V hV =>
    run_string_of (P := Try.prog) 22 9 5 Try.underlying22 Try.underlying5 Try.underlying9 _ _ V (hx.kept0 fun hn k hk => by rw [hV]; exact hW.block k (Nat.lt_of_lt_of_le (hxl hn k hk) hbase) (fun h => h (hxl hn k hk)))
  have key3 : ∀ W, Keeps (fun b => ¬ b < base) w W → Bytes W x l ∧ (l ≠ [] → ∀ k, x.ownBlock = some k → k < W.heap.size) := fun W hW =>
    ⟨hx.kept0 fun hn k hk => hW.block k (Nat.lt_of_lt_of_le (hxl hn k hk) hbase) (fun h => h (hxl hn k hk)), fun hn k hk => Nat.lt_of_lt_of_le (hxl hn k hk) (Nat.le_trans hbase hW.size)⟩
  have hxM : l ≠ [] → ∀ k, x.ownBlock = some k → k ≠ M := fun hn k hk e => by have := hd.is.lo.2.1; have := hxl hn k hk; omega
  have HXM := Lib.hid hxM
  have HK2 := Lib.hid key2
  have HK3 := Lib.hid key3
  have ns : Named s := hs ▸ five_named _
  have HNS := Lib.hid ns
  have HS := Lib.hid hs
  have HKEY := Lib.hid key
  have HB := Lib.hid hb
  have HD := Lib.hid hd
  have HP := Lib.hid hp
  have hm : ((absN kd : Nat) : Int) % 6 = 0 := by omega
  obtain ⟨m, hmm⟩ : ∃ m, m = absN kd := ⟨_, rfl⟩
  rw [← hmm] at hm
  have HM := Lib.hid hmm
  have hlen := hb.is.len
  have hbn := hb.len
  have HLEN := Lib.hid hlen
  have HBN := Lib.hid hbn
  clear key key2 key3 hb hd hp hO hK0 h3 hmm hs ns hx hxl hxM hlen hbn
  go_enter Try.func15, Try.ntmps15
  go_wp2_with (first
    | (at_builtin; have _g := C2; refine wpList_push rfl _ _ 37 rfl (x3.setCell ⟨K, 1, none⟩ (.slice a1' (bn.length + 1) c1')) base 3 i3 (.int .i64 0) 8 Try.underlying37 hi3 hz3 ho3 hb3 rfl (.slice a2 bn.length c2) (bs.map (.int .i64)) rfl NS2.out (.int .i64 0) _ rfl (by simp [World.setCell]) rfl (by omega) (by rw [List.length_map]; have := HBN.out; have := HLEN.out.2; omega) HBS2.out (bn.length + 1) (by rw [List.length_map, HLEN.out.2]) ?_; intro a2' c2' x4 hr hg hl; obtain ⟨p1, p2, p3, p4⟩ := push_one (j := 2) C2.out NS2.out (by decide) hg hr; have p2' : (x4.setCell ⟨K, 2, none⟩ (.slice a2' (bn.length + 1) c2')).heap[K]? = some (.cells #[(.slice a0' (bn.length + 1) c0'), (.slice a1' (bn.length + 1) c1'), (.slice a2' (bn.length + 1) c2')] 39 (0, 0)) := p2.trans (by simp); have C3 := Lib.hid p2'; have R2 := Lib.hid p3; have KP3 := Lib.hid p4; have L2 := Lib.hid hl; have h0 : x4.cell? ⟨K, 2, none⟩ = some (.slice a2 bn.length c2) := (by simp [World.cell?, p1]); have z2 : x4.frozen? ⟨K, 2, none⟩ = false := (by simp [World.frozen?, p1]); clear hr hg hl p1 p2 p2' p3 p4 q2 g0 g1 z1)
    | (at_builtin; have _g := C1; refine wpList_push rfl _ _ 36 rfl (x2.setCell ⟨K, 0, none⟩ (.slice a0' (bn.length + 1) c0')) base 9 i9 (.string ByteArray.empty) 16 Try.underlying36 hi9 hz9 ho9 hb9 rfl (.slice a1 bn.length c1) (bb.map .string) rfl NB.out (.string ⟨#[]⟩) _ rfl (by simp [World.setCell]) rfl (by omega) (by rw [List.length_map]; have := HBN.out; have := HLEN.out.1; omega) HBS1.out (bn.length + 1) (by rw [List.length_map, HLEN.out.1]) ?_; intro a1' c1' x3 hr hg hl; obtain ⟨p1, p2, p3, p4⟩ := push_one (j := 1) C1.out NB.out (by decide) hg hr; have p2' : (x3.setCell ⟨K, 1, none⟩ (.slice a1' (bn.length + 1) c1')).heap[K]? = some (.cells #[(.slice a0' (bn.length + 1) c0'), (.slice a1' (bn.length + 1) c1'), (.slice a2 bn.length c2)] 39 (0, 0)) := p2.trans (by simp); have C2 := Lib.hid p2'; have R1 := Lib.hid p3; have KP2 := Lib.hid p4; have L1 := Lib.hid hl; have g0 : x3.cell? ⟨K, 1, none⟩ = some (.slice a1 bn.length c1) := (by simp [World.cell?, p1]); have g1 : x3.cell? ⟨K, 2, none⟩ = some (.slice a2 bn.length c2) := (by simp [World.cell?, p1]); have z1 : x3.frozen? ⟨K, 1, none⟩ = false := (by simp [World.frozen?, p1]); have q2 : (x3.setCell ⟨K, 1, none⟩ (.slice a1' (bn.length + 1) c1')).cell? ⟨K, 2, none⟩ = some (.slice a2 bn.length c2) := (by simp [World.cell?, p2']); have n2 := NS.out.same (w' := (x3.setCell ⟨K, 1, none⟩ (.slice a1' (bn.length + 1) c1'))) (fun k hk => p4.block k (NS.out.lt hk).2.1 (fun e => e.elim (HB1.out.is.rows_ne.2.2 k hk).1 (HB1.out.is.rows_ne.2.2 k hk).2.2)); have NS2 := Lib.hid n2; have hbs1 := Nat.le_trans HBS1.out p4.size; have HBS2 := Lib.hid hbs1; clear hr hg hl p1 p2 p2' p3 p4 n2 hbs1 q1 f0 f1 z0)
    | (at_builtin; refine wpList_push rfl _ _ 36 rfl w1 base 9 i9 (.string ByteArray.empty) 16 Try.underlying36 hi9 hz9 ho9 hb9 rfl (.slice a0 bn.length c0) (bn.map .string) rfl HB1.out.is.names (.string s) _ rfl rfl rfl (by omega) (by rw [List.length_map]; have := HBN.out; omega) HBS.out (bn.length + 1) (by rw [List.length_map]) ?_; intro a0' c0' x2 hr hg hl; obtain ⟨p1, p2, p3, p4⟩ := push_one (j := 0) HC.out HB1.out.is.names (by decide) hg hr; have p2' : (x2.setCell ⟨K, 0, none⟩ (.slice a0' (bn.length + 1) c0')).heap[K]? = some (.cells #[(.slice a0' (bn.length + 1) c0'), (.slice a1 bn.length c1), (.slice a2 bn.length c2)] 39 (0, 0)) := p2.trans (by simp); have C1 := Lib.hid p2'; have R0 := Lib.hid p3; have KP1 := Lib.hid p4; have L0 := Lib.hid hl; have f0 : x2.cell? ⟨K, 0, none⟩ = some (.slice a0 bn.length c0) := (by simp [World.cell?, p1]); have f1 : x2.cell? ⟨K, 1, none⟩ = some (.slice a1 bn.length c1) := (by simp [World.cell?, p1]); have z0 : x2.frozen? ⟨K, 0, none⟩ = false := (by simp [World.frozen?, p1]); have q1 : (x2.setCell ⟨K, 0, none⟩ (.slice a0' (bn.length + 1) c0')).cell? ⟨K, 1, none⟩ = some (.slice a1 bn.length c1) := (by simp [World.cell?, p2']); have n1 := HB1.out.is.bytes.same (w' := (x2.setCell ⟨K, 0, none⟩ (.slice a0' (bn.length + 1) c0'))) (fun k hk => p4.block k (HB1.out.is.bytes.lt hk).2.1 (fun e => e.elim (HB1.out.is.rows_ne.2.1 k hk).1 (HB1.out.is.rows_ne.2.1 k hk).2.1)); have n2 := HB1.out.is.synced.same (w' := (x2.setCell ⟨K, 0, none⟩ (.slice a0' (bn.length + 1) c0'))) (fun k hk => p4.block k (HB1.out.is.synced.lt hk).2.1 (fun e => e.elim (HB1.out.is.rows_ne.2.2 k hk).1 (HB1.out.is.rows_ne.2.2 k hk).2.1)); have NB := Lib.hid n1; have NS := Lib.hid n2; have hbs1 := Nat.le_trans HBS.out p4.size; have HBS1 := Lib.hid hbs1; clear hr hg hl p1 p2 p2' p3 p4 n1 n2 hbs1 q0 o0)
    | (go_at_call 24; refine (name_is a.size _ ha).mono ?_; rintro e w1 ⟨rfl, hk1⟩; rw [← HS.out]; obtain ⟨hO, hK⟩ := HKEY.out _ hk1; have HK := Lib.hid hK; have HO := Lib.hid hO; have o0 : w1.cell? ⟨w.heap.size, 0, none⟩ = some (.int .i64 kd) := (by simp [World.cell?, hO]); have hb1 := (HB.out.keeps hK fun _ _ h => h); have HB1 := Lib.hid hb1; have kk := hb1.is.cells; have HC := Lib.hid kk; have hbs0 := Nat.le_trans hbase hK.size; have HBS := Lib.hid hbs0; have q0 : w1.cell? ⟨K, 0, none⟩ = some (.slice a0 bn.length c0) := (by simp [World.cell?, kk]); clear hk1 hO hK kk hb1 hbs0)
    | (go_at_call 25; refine (at_none HB1.out (by omega) s HP.out).mono ?_; rintro e w' ⟨rfl, rfl⟩)
    | (go_at_call 9; refine (abs_is kd _ hkd.1 hkd.2).mono ?_; rintro e w' ⟨rfl, rfl⟩; rw [← HM.out]))
  have hU3 : Book (x4.setCell ⟨K, 2, none⟩ (.slice a2' (bn.length + 1) c2')) base K (bn ++ [s]) (bb ++ [⟨#[]⟩]) (bs ++ [0]) (.slice a0' (bn.length + 1) c0') (.slice a1' (bn.length + 1) c1') (.slice a2' (bn.length + 1) c2') ∧ Keeps (BFoot K (.slice a0 bn.length c0) (.slice a1 bn.length c1) (.slice a2 bn.length c2)) w1 (x4.setCell ⟨K, 2, none⟩ (.slice a2' (bn.length + 1) c2')) ∧ ∀ b, BFoot K (.slice a0' (bn.length + 1) c0') (.slice a1' (bn.length + 1) c1') (.slice a2' (bn.length + 1) c2') b → BFoot K (.slice a0 bn.length c0) (.slice a1 bn.length c1) (.slice a2 bn.length c2) b ∨ w1.heap.size ≤ b := by
    have hKlt := (Array.getElem?_eq_some_iff.1 HC.out).1
    have r02 := R0.out.same (w' := x3.setCell ⟨K, 1, none⟩ (.slice a1' (bn.length + 1) c1')) (fun k hk => KP2.out.block k (R0.out.lt hk).2.1 (fun e => by
      rcases L0.out with h | ⟨k', h, hk'⟩
      · rw [h] at hk
        exact e.elim (HB1.out.is.rows_ne.1 k hk).1 (HB1.out.is.rows_ne.1 k hk).2.1
      · obtain rfl : k' = k := Option.some.inj (h.symm.trans hk)
        rcases e with e | e
        · omega
        · have := (HB1.out.is.bytes.lt e).2.1
          omega))
    exact push_fin HB1.out.is L0.out L1.out L2.out R0.out r02 R1.out R2.out NS2.out ⟨_, C2.out⟩ C3.out KP1.out KP2.out KP3.out
  obtain ⟨U, hU⟩ : ∃ U, U = x4.setCell ⟨K, 2, none⟩ (.slice a2' (bn.length + 1) c2') := ⟨_, rfl⟩
  rw [← hU] at hU3
  rw [← hU]
  clear hU R0 R1 R2 NS2 C1 C2 C3 KP1 KP2 KP3 L0 L1 L2 NB NS h0 z2
  obtain ⟨hbU, hkU, hfU⟩ := hU3
  have hl2 : bn.length + 1 = (bn ++ [s]).length := by simp
  obtain ⟨g0, e0, g1, e1, g2, e2, r0, r1, r2⟩ := hbU.rows (by simp)
  rw [← hl2] at r0 r1 r2
  rw [r0, r1, r2] at hbU hfU
  injection r0 with r0 _ _
  injection r1 with r1 _ _
  injection r2 with r2 _ _
  have hbU' := hbU
  rw [hl2] at hbU'
  obtain ⟨_, y, z, hy, d0, d1, d2, d3, d4, d5, d6, d7, d8⟩ := hbU'.facts (i := bn.length) (by simp)
  clear hbU'
  rw [← hl2] at d0 d1 d2
  have hi0 : (bn.length : Int) < (bn.length : Int) + 1 := by omega
  have hy0 : y = ⟨#[]⟩ := by
    rw [List.getElem?_append_right (Nat.le_of_eq HLEN.out.1)] at hy
    simp [HLEN.out.1] at hy
    exact hy.symm
  have hys : y.size = 0 := by rw [hy0]; rfl
  have HY := Lib.hid hy
  have HFU := Lib.hid hfU
  have hO := HO.out
  have hszU : w.heap.size < w1.heap.size := (Array.getElem?_eq_some_iff.1 hO).1
  have hfoot : ∀ b, BFoot K (.slice a0 bn.length c0) (.slice a1 bn.length c1) (.slice a2 bn.length c2) b → b < w.heap.size := fun b h => (HB.out.is.lt h).2
  have hOU : U.heap[w.heap.size]? = some (.cells #[.int .i64 kd, .string a, .string b, x, .int .i64 n] 44 (0, 0)) := (hkU.block _ hszU (fun h => by have := hfoot _ h; omega)).trans hO
  have o3 : U.cell? ⟨w.heap.size, 3, none⟩ = some x := by simp [World.cell?, hOU]
  have hg1 : g1 ≠ w.heap.size := fun e => by
    rcases hfU g1 (.inr (.inr (.inl rfl))) with h | h
    · have := hfoot _ h; omega
    · omega
  have hKU := Lib.hid hkU
  have hcv := HK2.out U ((HK.out.mono fun _ _ h => h.elim).trans (hkU.mono fun b _ h => Nat.not_lt.2 (HB.out.is.lt h).1)) U.drew rfl
  obtain ⟨str, hstr⟩ : ∃ str : ByteArray, str = ⟨l.toArray⟩ := ⟨_, rfl⟩
  have hss : str.size ≤ 1048576 := by rw [hstr]; simpa [ByteArray.size] using hl
  rw [← hstr] at hcv
  have hsz : ¬ 9223372036854775807 < y.size + str.size := by omega
  clear hstr hy
  have kb : Keeps (BFoot K (.slice a0 bn.length c0) (.slice a1 bn.length c1) (.slice a2 bn.length c2)) w1 (U.setCell ⟨g1, bn.length, none⟩ (.string (y ++ str))).drew :=
    (hkU.trans' (Keeps.setCell (F := fun b => b = g1) U ⟨g1, bn.length, none⟩ (.string (y ++ str)) fun _ => rfl) (fun b hb (e : b = g1) => by
      rw [e] at hb ⊢
      rcases hfU g1 (.inr (.inr (.inl rfl))) with h | h
      · exact h
      · omega)).trans (Keeps.drew _ _)
  have hbk : BGood (U.setCell ⟨g1, bn.length, none⟩ (.string (y ++ str))).drew base K (bn ++ [s]) ((bb ++ [(⟨#[]⟩ : ByteArray)]).set bn.length (y ++ str)) (bs ++ [0]) (.slice (some ⟨g0, 0, none⟩) (bn.length + 1) e0) (.slice (some ⟨g1, 0, none⟩) (bn.length + 1) e1) (.slice (some ⟨g2, 0, none⟩) (bn.length + 1) e2) (fun t => P t ∨ t = s) (k + 1) := by
    refine ⟨(Book.set_bytes hbU bn.length (y ++ str)).drew, ?_, fun t => ?_, ?_, set_size (fun b hb => ?_) HY.out hss⟩
    · exact List.nodup_append.2 ⟨HB.out.nodup, by simp, fun a ha b hb => by
        obtain rfl : b = s := by simpa using hb
        exact fun e => HP.out ((HB.out.mem _).1 (e ▸ ha))⟩
    · rw [List.mem_append, HB.out.mem]; simp
    · rw [← hl2]; exact Nat.succ_le_succ HBN.out
    · rcases List.mem_append.1 hb with h | h
      · exact HB.out.size b h
      · obtain rfl : b = ⟨#[]⟩ := by simpa using h
        exact Nat.zero_le _
  have hdw := DGood.atW HB.out HD.out HK.out kb
  have hxw := HK3.out _ ((HK.out.mono fun _ _ h => h.elim).trans (kb.mono fun b _ h => Nat.not_lt.2 (HB.out.is.lt h).1))
  have hsw : base ≤ (U.setCell ⟨g1, bn.length, none⟩ (.string (y ++ str))).drew.heap.size := Nat.le_trans hbase (Nat.le_trans HK.out.size kb.size)
  have o3' : (U.setCell ⟨g1, bn.length, none⟩ (.string (y ++ str))).cell? ⟨w.heap.size, 3, none⟩ = some x := by
    have h2 : (U.setCell ⟨g1, bn.length, none⟩ (.string (y ++ str))).heap[w.heap.size]? = U.heap[w.heap.size]? := Below.heap_setCell _ _ _ _ (by simp only; omega)
    rw [← o3]
    simp only [World.cell?, h2]
  have HKB := Lib.hid kb
  have HBK := Lib.hid hbk
  have HDW := Lib.hid hdw
  have HXW := Lib.hid hxw
  have HFT := Lib.hid hfoot
  clear kb hbk hdw hxw hfoot hO hOU hbU hfU hkU hKU hy0 hl2 hys r0 r1 r2 HK2
  go_still_tail 17, (by kernel_rfl)
  change wpList _ _ _ _ _ U.drew
  go_wp2_with (go_at_call 7; refine (app_res base D M S P k s x l _ HDW.out (by omega) HNS.out HXW.out.1 HXW.out.2 HXM.out hl hsw).mono ?_; rintro e w3 ⟨r, rfl, hres⟩; have HRES := Lib.hid hres; clear hres)
  go_ret
  have hsk := HK.out.size
  refine ⟨_, rfl, note_app_end HB.out HD.out HK.out HKB.out HBK.out (fun b h => (HFU.out b h).imp id fun h => Nat.le_trans hsk h) HRES.out trivial ?_⟩
  constructor <;> rintro rfl <;> rfl

set_option maxHeartbeats 3200000 in
set_option maxRecDepth 100000 in
theorem note_new1 (base K D M : Nat) (S : DS) (bn bb : List ByteArray) (bs : List Int) (v0 v1 v2 : Value) (P : ByteArray → Prop) (k : Nat) (kd n : Int) (a b s : ByteArray) (x : Value) (l : List UInt8) (w : World) (hb : BGood w base K bn bb bs v0 v1 v2 P k) (hd : DGood w base D M S P k) (hk : k ≤ 90) (hbase : base ≤ w.heap.size)
    (hkd : -9223372036854775808 ≤ kd ∧ kd ≤ 9223372036854775807) (ha : a.size ≤ 9223372036854775807) (hx : Bytes w x l) (hxl : l ≠ [] → ∀ k, x.ownBlock = some k → k < base) (hl : l.length ≤ 1048576) (h3 : absN kd % 6 = 1) (hs : s = five (a.size % 5)) (hp : ¬ P s) :
    Calls Try.prog 15 #[.pointer (some ⟨K, 0, none⟩), .pointer (some ⟨D, 0, none⟩), opV kd a b x n] w fun e w' => ∃ r, e = .returned (.bool r) ∧ NRes w base K D M S v0 v1 v2 (fun t => P t ∨ t = s) True k r w' := by
  unfold opV
  obtain ⟨i9, hi9, hz9, ho9, hb9⟩ := info_parts Try.info9
  obtain ⟨i3, hi3, hz3, ho3, hb3⟩ := info_parts Try.info3
  obtain ⟨a0, c0, hv0⟩ := hb.is.names.slice
  obtain ⟨a1, c1, hv1⟩ := hb.is.bytes.slice
  obtain ⟨a2, c2, hv2⟩ := hb.is.synced.slice
  simp only [List.length_map, hb.is.len.1, hb.is.len.2] at hv0 hv1 hv2
  subst hv0 hv1 hv2
  have hO : (w.alloc (.cells #[.int .i64 kd, .string a, .string b, x, .int .i64 n] 44)).heap[w.heap.size]? = some (.cells #[.int .i64 kd, .string a, .string b, x, .int .i64 n] 44 (0, 0)) := (MapKept.heap_alloc _ _).1
  have hK0 : Keeps (fun _ => False) w (w.alloc (.cells #[.int .i64 kd, .string a, .string b, x, .int .i64 n] 44)) := Keeps.alloc _ _ _
  have key : ∀ W, Keeps (fun _ => False) (w.alloc (.cells #[.int .i64 kd, .string a, .string b, x, .int .i64 n] 44)) W → W.heap[w.heap.size]? = some (.cells #[.int .i64 kd, .string a, .string b, x, .int .i64 n] 44 (0, 0)) ∧ Keeps (fun _ => False) w W := fun W hW =>
    ⟨(hW.block _ (by simp) (fun h => h)).trans hO, hK0.trans hW⟩
  have key2 : ∀ W, Keeps (fun b => ¬ b < base) w W → ∀ V : World, V.heap = W.heap → (convert 22 9 x).run Try.prog V = .ok (.string ⟨l.toArray⟩) V := fun W hW V hV =>
    run_string_of (P := Try.prog) 22 9 5 Try.underlying22 Try.underlying5 Try.underlying9 _ _ V (hx.kept0 fun hn k hk => by rw [hV]; exact hW.block k (Nat.lt_of_lt_of_le (hxl hn k hk) hbase) (fun h => h (hxl hn k hk)))
  have key3 : ∀ W, Keeps (fun b => ¬ b < base) w W → Bytes W x l ∧ (l ≠ [] → ∀ k, x.ownBlock = some k → k < W.heap.size) := fun W hW =>
    ⟨hx.kept0 fun hn k hk => hW.block k (Nat.lt_of_lt_of_le (hxl hn k hk) hbase) (fun h => h (hxl hn k hk)), fun hn k hk => Nat.lt_of_lt_of_le (hxl hn k hk) (Nat.le_trans hbase hW.size)⟩
  have hxM : l ≠ [] → ∀ k, x.ownBlock = some k → k ≠ M := fun hn k hk e => by have := hd.is.lo.2.1; have := hxl hn k hk; omega
  have HXM := Lib.hid hxM
  have HK2 := Lib.hid key2
  have HK3 := Lib.hid key3
  have ns : Named s := hs ▸ five_named _
  have HNS := Lib.hid ns
  have HS := Lib.hid hs
  have HKEY := Lib.hid key
  have HB := Lib.hid hb
  have HD := Lib.hid hd
  have HP := Lib.hid hp
  have hm : ((absN kd : Nat) : Int) % 6 = 1 := by omega
  obtain ⟨m, hmm⟩ : ∃ m, m = absN kd := ⟨_, rfl⟩
  rw [← hmm] at hm
  have HM := Lib.hid hmm
  have hlen := hb.is.len
  have hbn := hb.len
  have HLEN := Lib.hid hlen
  have HBN := Lib.hid hbn
  clear key key2 key3 hb hd hp hO hK0 h3 hmm hs ns hx hxl hxM hlen hbn
  go_enter Try.func15, Try.ntmps15
  go_wp2_with (first
    | (at_builtin; have _g := C2; refine wpList_push rfl _ _ 37 rfl (x3.setCell ⟨K, 1, none⟩ (.slice a1' (bn.length + 1) c1')) base 3 i3 (.int .i64 0) 8 Try.underlying37 hi3 hz3 ho3 hb3 rfl (.slice a2 bn.length c2) (bs.map (.int .i64)) rfl NS2.out (.int .i64 0) _ rfl (by simp [World.setCell]) rfl (by omega) (by rw [List.length_map]; have := HBN.out; have := HLEN.out.2; omega) HBS2.out (bn.length + 1) (by rw [List.length_map, HLEN.out.2]) ?_; intro a2' c2' x4 hr hg hl; obtain ⟨p1, p2, p3, p4⟩ := push_one (j := 2) C2.out NS2.out (by decide) hg hr; have p2' : (x4.setCell ⟨K, 2, none⟩ (.slice a2' (bn.length + 1) c2')).heap[K]? = some (.cells #[(.slice a0' (bn.length + 1) c0'), (.slice a1' (bn.length + 1) c1'), (.slice a2' (bn.length + 1) c2')] 39 (0, 0)) := p2.trans (by simp); have C3 := Lib.hid p2'; have R2 := Lib.hid p3; have KP3 := Lib.hid p4; have L2 := Lib.hid hl; have h0 : x4.cell? ⟨K, 2, none⟩ = some (.slice a2 bn.length c2) := (by simp [World.cell?, p1]); have z2 : x4.frozen? ⟨K, 2, none⟩ = false := (by simp [World.frozen?, p1]); clear hr hg hl p1 p2 p2' p3 p4 q2 g0 g1 z1)
    | (at_builtin; have _g := C1; refine wpList_push rfl _ _ 36 rfl (x2.setCell ⟨K, 0, none⟩ (.slice a0' (bn.length + 1) c0')) base 9 i9 (.string ByteArray.empty) 16 Try.underlying36 hi9 hz9 ho9 hb9 rfl (.slice a1 bn.length c1) (bb.map .string) rfl NB.out (.string ⟨#[]⟩) _ rfl (by simp [World.setCell]) rfl (by omega) (by rw [List.length_map]; have := HBN.out; have := HLEN.out.1; omega) HBS1.out (bn.length + 1) (by rw [List.length_map, HLEN.out.1]) ?_; intro a1' c1' x3 hr hg hl; obtain ⟨p1, p2, p3, p4⟩ := push_one (j := 1) C1.out NB.out (by decide) hg hr; have p2' : (x3.setCell ⟨K, 1, none⟩ (.slice a1' (bn.length + 1) c1')).heap[K]? = some (.cells #[(.slice a0' (bn.length + 1) c0'), (.slice a1' (bn.length + 1) c1'), (.slice a2 bn.length c2)] 39 (0, 0)) := p2.trans (by simp); have C2 := Lib.hid p2'; have R1 := Lib.hid p3; have KP2 := Lib.hid p4; have L1 := Lib.hid hl; have g0 : x3.cell? ⟨K, 1, none⟩ = some (.slice a1 bn.length c1) := (by simp [World.cell?, p1]); have g1 : x3.cell? ⟨K, 2, none⟩ = some (.slice a2 bn.length c2) := (by simp [World.cell?, p1]); have z1 : x3.frozen? ⟨K, 1, none⟩ = false := (by simp [World.frozen?, p1]); have q2 : (x3.setCell ⟨K, 1, none⟩ (.slice a1' (bn.length + 1) c1')).cell? ⟨K, 2, none⟩ = some (.slice a2 bn.length c2) := (by simp [World.cell?, p2']); have n2 := NS.out.same (w' := (x3.setCell ⟨K, 1, none⟩ (.slice a1' (bn.length + 1) c1'))) (fun k hk => p4.block k (NS.out.lt hk).2.1 (fun e => e.elim (HB1.out.is.rows_ne.2.2 k hk).1 (HB1.out.is.rows_ne.2.2 k hk).2.2)); have NS2 := Lib.hid n2; have hbs1 := Nat.le_trans HBS1.out p4.size; have HBS2 := Lib.hid hbs1; clear hr hg hl p1 p2 p2' p3 p4 n2 hbs1 q1 f0 f1 z0)
    | (at_builtin; refine wpList_push rfl _ _ 36 rfl w1 base 9 i9 (.string ByteArray.empty) 16 Try.underlying36 hi9 hz9 ho9 hb9 rfl (.slice a0 bn.length c0) (bn.map .string) rfl HB1.out.is.names (.string s) _ rfl rfl rfl (by omega) (by rw [List.length_map]; have := HBN.out; omega) HBS.out (bn.length + 1) (by rw [List.length_map]) ?_; intro a0' c0' x2 hr hg hl; obtain ⟨p1, p2, p3, p4⟩ := push_one (j := 0) HC.out HB1.out.is.names (by decide) hg hr; have p2' : (x2.setCell ⟨K, 0, none⟩ (.slice a0' (bn.length + 1) c0')).heap[K]? = some (.cells #[(.slice a0' (bn.length + 1) c0'), (.slice a1 bn.length c1), (.slice a2 bn.length c2)] 39 (0, 0)) := p2.trans (by simp); have C1 := Lib.hid p2'; have R0 := Lib.hid p3; have KP1 := Lib.hid p4; have L0 := Lib.hid hl; have f0 : x2.cell? ⟨K, 0, none⟩ = some (.slice a0 bn.length c0) := (by simp [World.cell?, p1]); have f1 : x2.cell? ⟨K, 1, none⟩ = some (.slice a1 bn.length c1) := (by simp [World.cell?, p1]); have z0 : x2.frozen? ⟨K, 0, none⟩ = false := (by simp [World.frozen?, p1]); have q1 : (x2.setCell ⟨K, 0, none⟩ (.slice a0' (bn.length + 1) c0')).cell? ⟨K, 1, none⟩ = some (.slice a1 bn.length c1) := (by simp [World.cell?, p2']); have n1 := HB1.out.is.bytes.same (w' := (x2.setCell ⟨K, 0, none⟩ (.slice a0' (bn.length + 1) c0'))) (fun k hk => p4.block k (HB1.out.is.bytes.lt hk).2.1 (fun e => e.elim (HB1.out.is.rows_ne.2.1 k hk).1 (HB1.out.is.rows_ne.2.1 k hk).2.1)); have n2 := HB1.out.is.synced.same (w' := (x2.setCell ⟨K, 0, none⟩ (.slice a0' (bn.length + 1) c0'))) (fun k hk => p4.block k (HB1.out.is.synced.lt hk).2.1 (fun e => e.elim (HB1.out.is.rows_ne.2.2 k hk).1 (HB1.out.is.rows_ne.2.2 k hk).2.1)); have NB := Lib.hid n1; have NS := Lib.hid n2; have hbs1 := Nat.le_trans HBS.out p4.size; have HBS1 := Lib.hid hbs1; clear hr hg hl p1 p2 p2' p3 p4 n1 n2 hbs1 q0 o0)
    | (go_at_call 24; refine (name_is a.size _ ha).mono ?_; rintro e w1 ⟨rfl, hk1⟩; rw [← HS.out]; obtain ⟨hO, hK⟩ := HKEY.out _ hk1; have HK := Lib.hid hK; have HO := Lib.hid hO; have o0 : w1.cell? ⟨w.heap.size, 0, none⟩ = some (.int .i64 kd) := (by simp [World.cell?, hO]); have hb1 := (HB.out.keeps hK fun _ _ h => h); have HB1 := Lib.hid hb1; have kk := hb1.is.cells; have HC := Lib.hid kk; have hbs0 := Nat.le_trans hbase hK.size; have HBS := Lib.hid hbs0; have q0 : w1.cell? ⟨K, 0, none⟩ = some (.slice a0 bn.length c0) := (by simp [World.cell?, kk]); clear hk1 hO hK kk hb1 hbs0)
    | (go_at_call 25; refine (at_none HB1.out (by omega) s HP.out).mono ?_; rintro e w' ⟨rfl, rfl⟩)
    | (go_at_call 9; refine (abs_is kd _ hkd.1 hkd.2).mono ?_; rintro e w' ⟨rfl, rfl⟩; rw [← HM.out]))
  have hU3 : Book (x4.setCell ⟨K, 2, none⟩ (.slice a2' (bn.length + 1) c2')) base K (bn ++ [s]) (bb ++ [⟨#[]⟩]) (bs ++ [0]) (.slice a0' (bn.length + 1) c0') (.slice a1' (bn.length + 1) c1') (.slice a2' (bn.length + 1) c2') ∧ Keeps (BFoot K (.slice a0 bn.length c0) (.slice a1 bn.length c1) (.slice a2 bn.length c2)) w1 (x4.setCell ⟨K, 2, none⟩ (.slice a2' (bn.length + 1) c2')) ∧ ∀ b, BFoot K (.slice a0' (bn.length + 1) c0') (.slice a1' (bn.length + 1) c1') (.slice a2' (bn.length + 1) c2') b → BFoot K (.slice a0 bn.length c0) (.slice a1 bn.length c1) (.slice a2 bn.length c2) b ∨ w1.heap.size ≤ b := by
    have hKlt := (Array.getElem?_eq_some_iff.1 HC.out).1
    have r02 := R0.out.same (w' := x3.setCell ⟨K, 1, none⟩ (.slice a1' (bn.length + 1) c1')) (fun k hk => KP2.out.block k (R0.out.lt hk).2.1 (fun e => by
      rcases L0.out with h | ⟨k', h, hk'⟩
      · rw [h] at hk
        exact e.elim (HB1.out.is.rows_ne.1 k hk).1 (HB1.out.is.rows_ne.1 k hk).2.1
      · obtain rfl : k' = k := Option.some.inj (h.symm.trans hk)
        rcases e with e | e
        · omega
        · have := (HB1.out.is.bytes.lt e).2.1
          omega))
    exact push_fin HB1.out.is L0.out L1.out L2.out R0.out r02 R1.out R2.out NS2.out ⟨_, C2.out⟩ C3.out KP1.out KP2.out KP3.out
  obtain ⟨U, hU⟩ : ∃ U, U = x4.setCell ⟨K, 2, none⟩ (.slice a2' (bn.length + 1) c2') := ⟨_, rfl⟩
  rw [← hU] at hU3
  rw [← hU]
  clear hU R0 R1 R2 NS2 C1 C2 C3 KP1 KP2 KP3 L0 L1 L2 NB NS h0 z2
  obtain ⟨hbU, hkU, hfU⟩ := hU3
  have hl2 : bn.length + 1 = (bn ++ [s]).length := by simp
  obtain ⟨g0, e0, g1, e1, g2, e2, r0, r1, r2⟩ := hbU.rows (by simp)
  rw [← hl2] at r0 r1 r2
  rw [r0, r1, r2] at hbU hfU
  injection r0 with r0 _ _
  injection r1 with r1 _ _
  injection r2 with r2 _ _
  have hbU' := hbU
  rw [hl2] at hbU'
  obtain ⟨_, y, z, hy, d0, d1, d2, d3, d4, d5, d6, d7, d8⟩ := hbU'.facts (i := bn.length) (by simp)
  clear hbU'
  rw [← hl2] at d0 d1 d2
  have hi0 : (bn.length : Int) < (bn.length : Int) + 1 := by omega
  have hy0 : y = ⟨#[]⟩ := by
    rw [List.getElem?_append_right (Nat.le_of_eq HLEN.out.1)] at hy
    simp [HLEN.out.1] at hy
    exact hy.symm
  have hys : y.size = 0 := by rw [hy0]; rfl
  have HY := Lib.hid hy
  have HFU := Lib.hid hfU
  have hO := HO.out
  have hszU : w.heap.size < w1.heap.size := (Array.getElem?_eq_some_iff.1 hO).1
  have hfoot : ∀ b, BFoot K (.slice a0 bn.length c0) (.slice a1 bn.length c1) (.slice a2 bn.length c2) b → b < w.heap.size := fun b h => (HB.out.is.lt h).2
  have hOU : U.heap[w.heap.size]? = some (.cells #[.int .i64 kd, .string a, .string b, x, .int .i64 n] 44 (0, 0)) := (hkU.block _ hszU (fun h => by have := hfoot _ h; omega)).trans hO
  have o3 : U.cell? ⟨w.heap.size, 3, none⟩ = some x := by simp [World.cell?, hOU]
  have hg1 : g1 ≠ w.heap.size := fun e => by
    rcases hfU g1 (.inr (.inr (.inl rfl))) with h | h
    · have := hfoot _ h; omega
    · omega
  have hKU := Lib.hid hkU
  have hcv := HK2.out U ((HK.out.mono fun _ _ h => h.elim).trans (hkU.mono fun b _ h => Nat.not_lt.2 (HB.out.is.lt h).1)) U.drew rfl
  obtain ⟨str, hstr⟩ : ∃ str : ByteArray, str = ⟨l.toArray⟩ := ⟨_, rfl⟩
  have hss : str.size ≤ 1048576 := by rw [hstr]; simpa [ByteArray.size] using hl
  rw [← hstr] at hcv
  have hsz : ¬ 9223372036854775807 < y.size + str.size := by omega
  clear hstr hy
  have kb : Keeps (BFoot K (.slice a0 bn.length c0) (.slice a1 bn.length c1) (.slice a2 bn.length c2)) w1 (U.setCell ⟨g1, bn.length, none⟩ (.string (y ++ str))).drew :=
    (hkU.trans' (Keeps.setCell (F := fun b => b = g1) U ⟨g1, bn.length, none⟩ (.string (y ++ str)) fun _ => rfl) (fun b hb (e : b = g1) => by
      rw [e] at hb ⊢
      rcases hfU g1 (.inr (.inr (.inl rfl))) with h | h
      · exact h
      · omega)).trans (Keeps.drew _ _)
  have hbk : BGood (U.setCell ⟨g1, bn.length, none⟩ (.string (y ++ str))).drew base K (bn ++ [s]) ((bb ++ [(⟨#[]⟩ : ByteArray)]).set bn.length (y ++ str)) (bs ++ [0]) (.slice (some ⟨g0, 0, none⟩) (bn.length + 1) e0) (.slice (some ⟨g1, 0, none⟩) (bn.length + 1) e1) (.slice (some ⟨g2, 0, none⟩) (bn.length + 1) e2) (fun t => P t ∨ t = s) (k + 1) := by
    refine ⟨(Book.set_bytes hbU bn.length (y ++ str)).drew, ?_, fun t => ?_, ?_, set_size (fun b hb => ?_) HY.out hss⟩
    · exact List.nodup_append.2 ⟨HB.out.nodup, by simp, fun a ha b hb => by
        obtain rfl : b = s := by simpa using hb
        exact fun e => HP.out ((HB.out.mem _).1 (e ▸ ha))⟩
    · rw [List.mem_append, HB.out.mem]; simp
    · rw [← hl2]; exact Nat.succ_le_succ HBN.out
    · rcases List.mem_append.1 hb with h | h
      · exact HB.out.size b h
      · obtain rfl : b = ⟨#[]⟩ := by simpa using h
        exact Nat.zero_le _
  have hdw := DGood.atW HB.out HD.out HK.out kb
  have hxw := HK3.out _ ((HK.out.mono fun _ _ h => h.elim).trans (kb.mono fun b _ h => Nat.not_lt.2 (HB.out.is.lt h).1))
  have hsw : base ≤ (U.setCell ⟨g1, bn.length, none⟩ (.string (y ++ str))).drew.heap.size := Nat.le_trans hbase (Nat.le_trans HK.out.size kb.size)
  have o3' : (U.setCell ⟨g1, bn.length, none⟩ (.string (y ++ str))).cell? ⟨w.heap.size, 3, none⟩ = some x := by
    have h2 : (U.setCell ⟨g1, bn.length, none⟩ (.string (y ++ str))).heap[w.heap.size]? = U.heap[w.heap.size]? := Below.heap_setCell _ _ _ _ (by simp only; omega)
    rw [← o3]
    simp only [World.cell?, h2]
  have HKB := Lib.hid kb
  have HBK := Lib.hid hbk
  have HDW := Lib.hid hdw
  have HXW := Lib.hid hxw
  have HFT := Lib.hid hfoot
  clear kb hbk hdw hxw hfoot hO hOU hbU hfU hkU hKU hy0 hl2 hys r0 r1 r2 HK2
  go_still_tail 17, (by kernel_rfl)
  change wpList _ _ _ _ _ U.drew
  go_wp2_with (go_at_call 7; refine (app_res base D M S P k s x l _ HDW.out (by omega) HNS.out HXW.out.1 HXW.out.2 HXM.out hl hsw).mono ?_; rintro e w3 ⟨r, rfl, hres⟩; have HRES := Lib.hid hres; clear hres)
  go_ret
  have hsk := HK.out.size
  refine ⟨_, rfl, note_app_end HB.out HD.out HK.out HKB.out HBK.out (fun b h => (HFU.out b h).imp id fun h => Nat.le_trans hsk h) HRES.out trivial ?_⟩
  constructor <;> rintro rfl <;> rfl

set_option maxHeartbeats 3200000 in
set_option maxRecDepth 100000 in
theorem note_new2 (base K D M : Nat) (S : DS) (bn bb : List ByteArray) (bs : List Int) (v0 v1 v2 : Value) (P : ByteArray → Prop) (k : Nat) (kd n : Int) (a b s : ByteArray) (x : Value) (l : List UInt8) (w : World) (hb : BGood w base K bn bb bs v0 v1 v2 P k) (hd : DGood w base D M S P k) (hk : k ≤ 90) (hbase : base ≤ w.heap.size)
    (hkd : -9223372036854775808 ≤ kd ∧ kd ≤ 9223372036854775807) (ha : a.size ≤ 9223372036854775807) (hx : Bytes w x l) (hxl : l ≠ [] → ∀ k, x.ownBlock = some k → k < base) (hl : l.length ≤ 1048576) (h3 : absN kd % 6 = 2) (hs : s = five (a.size % 5)) (hp : ¬ P s) :
    Calls Try.prog 15 #[.pointer (some ⟨K, 0, none⟩), .pointer (some ⟨D, 0, none⟩), opV kd a b x n] w fun e w' => ∃ r, e = .returned (.bool r) ∧ NRes w base K D M S v0 v1 v2 (fun t => P t ∨ t = s) True k r w' := by
  unfold opV
  obtain ⟨i9, hi9, hz9, ho9, hb9⟩ := info_parts Try.info9
  obtain ⟨i3, hi3, hz3, ho3, hb3⟩ := info_parts Try.info3
  obtain ⟨a0, c0, hv0⟩ := hb.is.names.slice
  obtain ⟨a1, c1, hv1⟩ := hb.is.bytes.slice
  obtain ⟨a2, c2, hv2⟩ := hb.is.synced.slice
  simp only [List.length_map, hb.is.len.1, hb.is.len.2] at hv0 hv1 hv2
  subst hv0 hv1 hv2
  have hO : (w.alloc (.cells #[.int .i64 kd, .string a, .string b, x, .int .i64 n] 44)).heap[w.heap.size]? = some (.cells #[.int .i64 kd, .string a, .string b, x, .int .i64 n] 44 (0, 0)) := (MapKept.heap_alloc _ _).1
  have hK0 : Keeps (fun _ => False) w (w.alloc (.cells #[.int .i64 kd, .string a, .string b, x, .int .i64 n] 44)) := Keeps.alloc _ _ _
  have key : ∀ W, Keeps (fun _ => False) (w.alloc (.cells #[.int .i64 kd, .string a, .string b, x, .int .i64 n] 44)) W → W.heap[w.heap.size]? = some (.cells #[.int .i64 kd, .string a, .string b, x, .int .i64 n] 44 (0, 0)) ∧ Keeps (fun _ => False) w W := fun W hW =>
    ⟨(hW.block _ (by simp) (fun h => h)).trans hO, hK0.trans hW⟩
  have key2 : ∀ W, Keeps (fun b => ¬ b < base) w W → ∀ V : World, V.heap = W.heap → (convert 22 9 x).run Try.prog V = .ok (.string ⟨l.toArray⟩) V := fun W hW V hV =>
    run_string_of (P := Try.prog) 22 9 5 Try.underlying22 Try.underlying5 Try.underlying9 _ _ V (hx.kept0 fun hn k hk => by rw [hV]; exact hW.block k (Nat.lt_of_lt_of_le (hxl hn k hk) hbase) (fun h => h (hxl hn k hk)))
  have key3 : ∀ W, Keeps (fun b => ¬ b < base) w W → Bytes W x l ∧ (l ≠ [] → ∀ k, x.ownBlock = some k → k < W.heap.size) := fun W hW =>
    ⟨hx.kept0 fun hn k hk => hW.block k (Nat.lt_of_lt_of_le (hxl hn k hk) hbase) (fun h => h (hxl hn k hk)), fun hn k hk => Nat.lt_of_lt_of_le (hxl hn k hk) (Nat.le_trans hbase hW.size)⟩
  have hxM : l ≠ [] → ∀ k, x.ownBlock = some k → k ≠ M := fun hn k hk e => by have := hd.is.lo.2.1; have := hxl hn k hk; omega
  have HXM := Lib.hid hxM
  have HK2 := Lib.hid key2
  have HK3 := Lib.hid key3
  have ns : Named s := hs ▸ five_named _
  have HNS := Lib.hid ns
  have HS := Lib.hid hs
  have HKEY := Lib.hid key
  have HB := Lib.hid hb
  have HD := Lib.hid hd
  have HP := Lib.hid hp
  have hm : ((absN kd : Nat) : Int) % 6 = 2 := by omega
  obtain ⟨m, hmm⟩ : ∃ m, m = absN kd := ⟨_, rfl⟩
  rw [← hmm] at hm
  have HM := Lib.hid hmm
  have hlen := hb.is.len
  have hbn := hb.len
  have HLEN := Lib.hid hlen
  have HBN := Lib.hid hbn
  clear key key2 key3 hb hd hp hO hK0 h3 hmm hs ns hx hxl hxM hlen hbn
  go_enter Try.func15, Try.ntmps15
  go_wp2_with (first
    | (at_builtin; have _g := C2; refine wpList_push rfl _ _ 37 rfl (x3.setCell ⟨K, 1, none⟩ (.slice a1' (bn.length + 1) c1')) base 3 i3 (.int .i64 0) 8 Try.underlying37 hi3 hz3 ho3 hb3 rfl (.slice a2 bn.length c2) (bs.map (.int .i64)) rfl NS2.out (.int .i64 0) _ rfl (by simp [World.setCell]) rfl (by omega) (by rw [List.length_map]; have := HBN.out; have := HLEN.out.2; omega) HBS2.out (bn.length + 1) (by rw [List.length_map, HLEN.out.2]) ?_; intro a2' c2' x4 hr hg hl; obtain ⟨p1, p2, p3, p4⟩ := push_one (j := 2) C2.out NS2.out (by decide) hg hr; have p2' : (x4.setCell ⟨K, 2, none⟩ (.slice a2' (bn.length + 1) c2')).heap[K]? = some (.cells #[(.slice a0' (bn.length + 1) c0'), (.slice a1' (bn.length + 1) c1'), (.slice a2' (bn.length + 1) c2')] 39 (0, 0)) := p2.trans (by simp); have C3 := Lib.hid p2'; have R2 := Lib.hid p3; have KP3 := Lib.hid p4; have L2 := Lib.hid hl; have h0 : x4.cell? ⟨K, 2, none⟩ = some (.slice a2 bn.length c2) := (by simp [World.cell?, p1]); have z2 : x4.frozen? ⟨K, 2, none⟩ = false := (by simp [World.frozen?, p1]); clear hr hg hl p1 p2 p2' p3 p4 q2 g0 g1 z1)
    | (at_builtin; have _g := C1; refine wpList_push rfl _ _ 36 rfl (x2.setCell ⟨K, 0, none⟩ (.slice a0' (bn.length + 1) c0')) base 9 i9 (.string ByteArray.empty) 16 Try.underlying36 hi9 hz9 ho9 hb9 rfl (.slice a1 bn.length c1) (bb.map .string) rfl NB.out (.string ⟨#[]⟩) _ rfl (by simp [World.setCell]) rfl (by omega) (by rw [List.length_map]; have := HBN.out; have := HLEN.out.1; omega) HBS1.out (bn.length + 1) (by rw [List.length_map, HLEN.out.1]) ?_; intro a1' c1' x3 hr hg hl; obtain ⟨p1, p2, p3, p4⟩ := push_one (j := 1) C1.out NB.out (by decide) hg hr; have p2' : (x3.setCell ⟨K, 1, none⟩ (.slice a1' (bn.length + 1) c1')).heap[K]? = some (.cells #[(.slice a0' (bn.length + 1) c0'), (.slice a1' (bn.length + 1) c1'), (.slice a2 bn.length c2)] 39 (0, 0)) := p2.trans (by simp); have C2 := Lib.hid p2'; have R1 := Lib.hid p3; have KP2 := Lib.hid p4; have L1 := Lib.hid hl; have g0 : x3.cell? ⟨K, 1, none⟩ = some (.slice a1 bn.length c1) := (by simp [World.cell?, p1]); have g1 : x3.cell? ⟨K, 2, none⟩ = some (.slice a2 bn.length c2) := (by simp [World.cell?, p1]); have z1 : x3.frozen? ⟨K, 1, none⟩ = false := (by simp [World.frozen?, p1]); have q2 : (x3.setCell ⟨K, 1, none⟩ (.slice a1' (bn.length + 1) c1')).cell? ⟨K, 2, none⟩ = some (.slice a2 bn.length c2) := (by simp [World.cell?, p2']); have n2 := NS.out.same (w' := (x3.setCell ⟨K, 1, none⟩ (.slice a1' (bn.length + 1) c1'))) (fun k hk => p4.block k (NS.out.lt hk).2.1 (fun e => e.elim (HB1.out.is.rows_ne.2.2 k hk).1 (HB1.out.is.rows_ne.2.2 k hk).2.2)); have NS2 := Lib.hid n2; have hbs1 := Nat.le_trans HBS1.out p4.size; have HBS2 := Lib.hid hbs1; clear hr hg hl p1 p2 p2' p3 p4 n2 hbs1 q1 f0 f1 z0)
    | (at_builtin; refine wpList_push rfl _ _ 36 rfl w1 base 9 i9 (.string ByteArray.empty) 16 Try.underlying36 hi9 hz9 ho9 hb9 rfl (.slice a0 bn.length c0) (bn.map .string) rfl HB1.out.is.names (.string s) _ rfl rfl rfl (by omega) (by rw [List.length_map]; have := HBN.out; omega) HBS.out (bn.length + 1) (by rw [List.length_map]) ?_; intro a0' c0' x2 hr hg hl; obtain ⟨p1, p2, p3, p4⟩ := push_one (j := 0) HC.out HB1.out.is.names (by decide) hg hr; have p2' : (x2.setCell ⟨K, 0, none⟩ (.slice a0' (bn.length + 1) c0')).heap[K]? = some (.cells #[(.slice a0' (bn.length + 1) c0'), (.slice a1 bn.length c1), (.slice a2 bn.length c2)] 39 (0, 0)) := p2.trans (by simp); have C1 := Lib.hid p2'; have R0 := Lib.hid p3; have KP1 := Lib.hid p4; have L0 := Lib.hid hl; have f0 : x2.cell? ⟨K, 0, none⟩ = some (.slice a0 bn.length c0) := (by simp [World.cell?, p1]); have f1 : x2.cell? ⟨K, 1, none⟩ = some (.slice a1 bn.length c1) := (by simp [World.cell?, p1]); have z0 : x2.frozen? ⟨K, 0, none⟩ = false := (by simp [World.frozen?, p1]); have q1 : (x2.setCell ⟨K, 0, none⟩ (.slice a0' (bn.length + 1) c0')).cell? ⟨K, 1, none⟩ = some (.slice a1 bn.length c1) := (by simp [World.cell?, p2']); have n1 := HB1.out.is.bytes.same (w' := (x2.setCell ⟨K, 0, none⟩ (.slice a0' (bn.length + 1) c0'))) (fun k hk => p4.block k (HB1.out.is.bytes.lt hk).2.1 (fun e => e.elim (HB1.out.is.rows_ne.2.1 k hk).1 (HB1.out.is.rows_ne.2.1 k hk).2.1)); have n2 := HB1.out.is.synced.same (w' := (x2.setCell ⟨K, 0, none⟩ (.slice a0' (bn.length + 1) c0'))) (fun k hk => p4.block k (HB1.out.is.synced.lt hk).2.1 (fun e => e.elim (HB1.out.is.rows_ne.2.2 k hk).1 (HB1.out.is.rows_ne.2.2 k hk).2.1)); have NB := Lib.hid n1; have NS := Lib.hid n2; have hbs1 := Nat.le_trans HBS.out p4.size; have HBS1 := Lib.hid hbs1; clear hr hg hl p1 p2 p2' p3 p4 n1 n2 hbs1 q0 o0)
    | (go_at_call 24; refine (name_is a.size _ ha).mono ?_; rintro e w1 ⟨rfl, hk1⟩; rw [← HS.out]; obtain ⟨hO, hK⟩ := HKEY.out _ hk1; have HK := Lib.hid hK; have HO := Lib.hid hO; have o0 : w1.cell? ⟨w.heap.size, 0, none⟩ = some (.int .i64 kd) := (by simp [World.cell?, hO]); have hb1 := (HB.out.keeps hK fun _ _ h => h); have HB1 := Lib.hid hb1; have kk := hb1.is.cells; have HC := Lib.hid kk; have hbs0 := Nat.le_trans hbase hK.size; have HBS := Lib.hid hbs0; have q0 : w1.cell? ⟨K, 0, none⟩ = some (.slice a0 bn.length c0) := (by simp [World.cell?, kk]); clear hk1 hO hK kk hb1 hbs0)
    | (go_at_call 25; refine (at_none HB1.out (by omega) s HP.out).mono ?_; rintro e w' ⟨rfl, rfl⟩)
    | (go_at_call 9; refine (abs_is kd _ hkd.1 hkd.2).mono ?_; rintro e w' ⟨rfl, rfl⟩; rw [← HM.out]))
  have hU3 : Book (x4.setCell ⟨K, 2, none⟩ (.slice a2' (bn.length + 1) c2')) base K (bn ++ [s]) (bb ++ [⟨#[]⟩]) (bs ++ [0]) (.slice a0' (bn.length + 1) c0') (.slice a1' (bn.length + 1) c1') (.slice a2' (bn.length + 1) c2') ∧ Keeps (BFoot K (.slice a0 bn.length c0) (.slice a1 bn.length c1) (.slice a2 bn.length c2)) w1 (x4.setCell ⟨K, 2, none⟩ (.slice a2' (bn.length + 1) c2')) ∧ ∀ b, BFoot K (.slice a0' (bn.length + 1) c0') (.slice a1' (bn.length + 1) c1') (.slice a2' (bn.length + 1) c2') b → BFoot K (.slice a0 bn.length c0) (.slice a1 bn.length c1) (.slice a2 bn.length c2) b ∨ w1.heap.size ≤ b := by
    have hKlt := (Array.getElem?_eq_some_iff.1 HC.out).1
    have r02 := R0.out.same (w' := x3.setCell ⟨K, 1, none⟩ (.slice a1' (bn.length + 1) c1')) (fun k hk => KP2.out.block k (R0.out.lt hk).2.1 (fun e => by
      rcases L0.out with h | ⟨k', h, hk'⟩
      · rw [h] at hk
        exact e.elim (HB1.out.is.rows_ne.1 k hk).1 (HB1.out.is.rows_ne.1 k hk).2.1
      · obtain rfl : k' = k := Option.some.inj (h.symm.trans hk)
        rcases e with e | e
        · omega
        · have := (HB1.out.is.bytes.lt e).2.1
          omega))
    exact push_fin HB1.out.is L0.out L1.out L2.out R0.out r02 R1.out R2.out NS2.out ⟨_, C2.out⟩ C3.out KP1.out KP2.out KP3.out
  obtain ⟨U, hU⟩ : ∃ U, U = x4.setCell ⟨K, 2, none⟩ (.slice a2' (bn.length + 1) c2') := ⟨_, rfl⟩
  rw [← hU] at hU3
  rw [← hU]
  clear hU R0 R1 R2 NS2 C1 C2 C3 KP1 KP2 KP3 L0 L1 L2 NB NS h0 z2
  obtain ⟨hbU, hkU, hfU⟩ := hU3
  have hl2 : bn.length + 1 = (bn ++ [s]).length := by simp
  obtain ⟨g0, e0, g1, e1, g2, e2, r0, r1, r2⟩ := hbU.rows (by simp)
  rw [← hl2] at r0 r1 r2
  rw [r0, r1, r2] at hbU hfU
  injection r0 with r0 _ _
  injection r1 with r1 _ _
  injection r2 with r2 _ _
  have hbU' := hbU
  rw [hl2] at hbU'
  obtain ⟨_, y, z, hy, d0, d1, d2, d3, d4, d5, d6, d7, d8⟩ := hbU'.facts (i := bn.length) (by simp)
  clear hbU'
  rw [← hl2] at d0 d1 d2
  have hi0 : (bn.length : Int) < (bn.length : Int) + 1 := by omega
  have hy0 : y = ⟨#[]⟩ := by
    rw [List.getElem?_append_right (Nat.le_of_eq HLEN.out.1)] at hy
    simp [HLEN.out.1] at hy
    exact hy.symm
  have hys : y.size = 0 := by rw [hy0]; rfl
  have HY := Lib.hid hy
  have HFU := Lib.hid hfU
  have hO := HO.out
  have hszU : w.heap.size < w1.heap.size := (Array.getElem?_eq_some_iff.1 hO).1
  have hfoot : ∀ b, BFoot K (.slice a0 bn.length c0) (.slice a1 bn.length c1) (.slice a2 bn.length c2) b → b < w.heap.size := fun b h => (HB.out.is.lt h).2
  have hOU : U.heap[w.heap.size]? = some (.cells #[.int .i64 kd, .string a, .string b, x, .int .i64 n] 44 (0, 0)) := (hkU.block _ hszU (fun h => by have := hfoot _ h; omega)).trans hO
  have o3 : U.cell? ⟨w.heap.size, 3, none⟩ = some x := by simp [World.cell?, hOU]
  have hg1 : g1 ≠ w.heap.size := fun e => by
    rcases hfU g1 (.inr (.inr (.inl rfl))) with h | h
    · have := hfoot _ h; omega
    · omega
  have hKU := Lib.hid hkU
  have hcv := HK2.out U ((HK.out.mono fun _ _ h => h.elim).trans (hkU.mono fun b _ h => Nat.not_lt.2 (HB.out.is.lt h).1)) U.drew rfl
  obtain ⟨str, hstr⟩ : ∃ str : ByteArray, str = ⟨l.toArray⟩ := ⟨_, rfl⟩
  have hss : str.size ≤ 1048576 := by rw [hstr]; simpa [ByteArray.size] using hl
  rw [← hstr] at hcv
  have hsz : ¬ 9223372036854775807 < y.size + str.size := by omega
  clear hstr hy
  have kb : Keeps (BFoot K (.slice a0 bn.length c0) (.slice a1 bn.length c1) (.slice a2 bn.length c2)) w1 (U.setCell ⟨g1, bn.length, none⟩ (.string (y ++ str))).drew :=
    (hkU.trans' (Keeps.setCell (F := fun b => b = g1) U ⟨g1, bn.length, none⟩ (.string (y ++ str)) fun _ => rfl) (fun b hb (e : b = g1) => by
      rw [e] at hb ⊢
      rcases hfU g1 (.inr (.inr (.inl rfl))) with h | h
      · exact h
      · omega)).trans (Keeps.drew _ _)
  have hbk : BGood (U.setCell ⟨g1, bn.length, none⟩ (.string (y ++ str))).drew base K (bn ++ [s]) ((bb ++ [(⟨#[]⟩ : ByteArray)]).set bn.length (y ++ str)) (bs ++ [0]) (.slice (some ⟨g0, 0, none⟩) (bn.length + 1) e0) (.slice (some ⟨g1, 0, none⟩) (bn.length + 1) e1) (.slice (some ⟨g2, 0, none⟩) (bn.length + 1) e2) (fun t => P t ∨ t = s) (k + 1) := by
    refine ⟨(Book.set_bytes hbU bn.length (y ++ str)).drew, ?_, fun t => ?_, ?_, set_size (fun b hb => ?_) HY.out hss⟩
    · exact List.nodup_append.2 ⟨HB.out.nodup, by simp, fun a ha b hb => by
        obtain rfl : b = s := by simpa using hb
        exact fun e => HP.out ((HB.out.mem _).1 (e ▸ ha))⟩
    · rw [List.mem_append, HB.out.mem]; simp
    · rw [← hl2]; exact Nat.succ_le_succ HBN.out
    · rcases List.mem_append.1 hb with h | h
      · exact HB.out.size b h
      · obtain rfl : b = ⟨#[]⟩ := by simpa using h
        exact Nat.zero_le _
  have hdw := DGood.atW HB.out HD.out HK.out kb
  have hxw := HK3.out _ ((HK.out.mono fun _ _ h => h.elim).trans (kb.mono fun b _ h => Nat.not_lt.2 (HB.out.is.lt h).1))
  have hsw : base ≤ (U.setCell ⟨g1, bn.length, none⟩ (.string (y ++ str))).drew.heap.size := Nat.le_trans hbase (Nat.le_trans HK.out.size kb.size)
  have o3' : (U.setCell ⟨g1, bn.length, none⟩ (.string (y ++ str))).cell? ⟨w.heap.size, 3, none⟩ = some x := by
    have h2 : (U.setCell ⟨g1, bn.length, none⟩ (.string (y ++ str))).heap[w.heap.size]? = U.heap[w.heap.size]? := Below.heap_setCell _ _ _ _ (by simp only; omega)
    rw [← o3]
    simp only [World.cell?, h2]
  have HKB := Lib.hid kb
  have HBK := Lib.hid hbk
  have HDW := Lib.hid hdw
  have HXW := Lib.hid hxw
  have HFT := Lib.hid hfoot
  clear kb hbk hdw hxw hfoot hO hOU hbU hfU hkU hKU hy0 hl2 hys r0 r1 r2 HK2
  go_still_tail 17, (by kernel_rfl)
  change wpList _ _ _ _ _ U.drew
  go_wp2_with (go_at_call 7; refine (app_res base D M S P k s x l _ HDW.out (by omega) HNS.out HXW.out.1 HXW.out.2 HXM.out hl hsw).mono ?_; rintro e w3 ⟨r, rfl, hres⟩; have HRES := Lib.hid hres; clear hres)
  go_ret
  have hsk := HK.out.size
  refine ⟨_, rfl, note_app_end HB.out HD.out HK.out HKB.out HBK.out (fun b h => (HFU.out b h).imp id fun h => Nat.le_trans hsk h) HRES.out trivial ?_⟩
  constructor <;> rintro rfl <;> rfl

end Go.Proofs.Ytigbodokmkpohaa
