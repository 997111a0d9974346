/- dfa.numbered in memory: two maps, the states met, the states made. -/
import Derived.Test.YtebdffabfimmkaaDoorHDfaBoth9
import Derived.Test.YtebdffabfimmkaaDoorHDfaBoth11
import Derived.Test.YtebdffabfimmkaaDoorHDfaBoth12
import Derived.Test.YtebdffabfimmkaaDoorHDfaBoth7
import Derived.Test.YtebdffabfimmkaaDoorHDfaBoth3
import Derived.Sort.OwnSortedInts
import Derived.Lib.OwnBridge
import Derived.Lib.SlicesCompact
import Derived.Lib.RowBridge
namespace Go.Proofs.YtebdffabfimmkaaDoor
open Go.RowKit

theorem el_state : Elem Tryd.prog 22 39 2 32 := Elem.mk_ Tryd.underlying22 (z := .agg #[.bool false, .slice none 0 0]) (by kernel_rfl) rfl (by omega)
def Sh.row (x : Sh) : GRow := ⟨.slice x.A x.d.2.length x.c, x.d.2.length, arcsC x.d.2⟩
/-- States of the call's own. -/
structure OwnSts (W : World) (base : Nat) (v : Value) (hs : List Sh) : Prop where
  out : W.ownsRow base 39 2 v hs.length (hs.flatMap Sh.hdr)
  fam : GFam W base 41 3 (hs.map Sh.row)
theorem OwnSts.keep {W W' : World} {base : Nat} {v : Value} {hs : List Sh} (h : OwnSts W base v hs) (hb : Below W.heap.size W W') : OwnSts W' base v hs := ⟨own_kept h.out hb, h.fam.below hb⟩
theorem OwnSts.sts {W : World} {base n c : Nat} {A : Option Addr} {hs : List Sh} (h : OwnSts W base (.slice A n c) hs) (hn : hs.length = n) (hm : n ≤ 140737488355328) (hs2 : ∀ x ∈ hs, x.d.2.length ≤ 140737488355328) : StsIn W W.heap.size A n c hs := by
  subst hn
  obtain ⟨A1, c1, e1, h1⟩ := own_shape h.out
  injection e1 with _ _ e1
  refine ⟨rfl, Sl.of_own h.out, by omega, hm, fun x hx => ?_⟩
  have ho : W.ownsRow base 41 3 (.slice x.A x.d.2.length x.c) x.d.2.length (arcsC x.d.2) := h.fam.own x.row (List.mem_map.2 ⟨x, hx, rfl⟩)
  obtain ⟨A2, c2, e2, h2⟩ := own_shape ho
  injection e2 with _ _ e2
  exact ⟨Sl.of_own ho, by omega, hs2 x hx⟩
structure NuR (w W : World) (nb nn mb mn : Nat) (N1 N2 : DataW Unit) (Af : Option Addr) (p cf : Nat) (met : List Nat) (Ao : Option Addr) (q co : Nat) (cur : GRow) (ex : List GRow) (hs : List Sh) : Prop where
  bel : Below w.heap.size w W
  num : iiMap W nb nn N1
  mem : iiMap W mb mn N2
  ne : nb ≠ mb
  nlo : w.heap.size ≤ nb
  mlo : w.heap.size ≤ mb
  fst : W.ownsRow w.heap.size 3 1 (.slice Af p cf) p (met.map fun z : Nat => Value.int .i64 (z : Int))
  out : W.ownsRow w.heap.size 39 2 (.slice Ao q co) q (hs.flatMap Sh.hdr)
  fam : GFam W w.heap.size 41 3 (cur :: (ex ++ hs.map Sh.row))
section
variable {w W W' : World} {nb nn mb mn : Nat} {N1 N2 : DataW Unit} {Af : Option Addr} {p cf : Nat} {met : List Nat} {Ao : Option Addr} {q co : Nat} {cur : GRow} {ex : List GRow} {hs : List Sh}
theorem NuR.keep (h : NuR w W nb nn mb mn N1 N2 Af p cf met Ao q co cur ex hs) (hb : Below W.heap.size W W') : NuR w W' nb nn mb mn N1 N2 Af p cf met Ao q co cur ex hs :=
  ⟨bcall h.bel hb, mapI_keep h.num hb, mapI_keep h.mem hb, h.ne, h.nlo, h.mlo, own_kept h.fst hb, own_kept h.out hb, h.fam.below hb⟩
/-- A store into the map of numbers. -/
theorem NuR.putN (h : NuR w W nb nn mb mn N1 N2 Af p cf met Ao q co cur ex hs) {N3 : DataW Unit} (hm : iiMap W' nb (nn + 1) N3) (hg : W.grownBy W' (some nb)) :
    NuR w W' nb (nn + 1) mb mn N3 N2 Af p cf met Ao q co cur ex hs ∧ ∀ (k : Nat) (cs : Array Value) (e : TypeId) (z : Nat × Nat), W.heap[k]? = some (.cells cs e z) → W'.heap[k]? = some (.cells cs e z) := by
  refine ⟨⟨h.bel.grown hg h.bel.size (fun r hr => by injection hr with hr; have := h.nlo; omega), hm, h.mem.kept hg (fun e => h.ne (by injection e with e; exact e.symm)), h.ne, h.nlo, h.mlo, h.fst.kept hg (row_not_map' h.fst h.num), h.out.kept hg (row_not_map' h.out h.num), h.fam.kept hg fun x hx => row_not_map' (h.fam.own x hx) h.num⟩, fun k cs e z hk => ?_⟩
  exact (hg.block k (Array.getElem?_eq_some_iff.1 hk).1 (fun e => map_not_cells h.num hk (by injection e))).trans hk
theorem NuR.putM (h : NuR w W nb nn mb mn N1 N2 Af p cf met Ao q co cur ex hs) {N3 : DataW Unit} (hm : iiMap W' mb (mn + 1) N3) (hg : W.grownBy W' (some mb)) :
    NuR w W' nb nn mb (mn + 1) N1 N3 Af p cf met Ao q co cur ex hs ∧ ∀ (k : Nat) (cs : Array Value) (e : TypeId) (z : Nat × Nat), W.heap[k]? = some (.cells cs e z) → W'.heap[k]? = some (.cells cs e z) := by
  refine ⟨⟨h.bel.grown hg h.bel.size (fun r hr => by injection hr with hr; have := h.mlo; omega), h.num.kept hg (fun e => h.ne (by injection e with e)), hm, h.ne, h.nlo, h.mlo, h.fst.kept hg (row_not_map' h.fst h.mem), h.out.kept hg (row_not_map' h.out h.mem), h.fam.kept hg fun x hx => row_not_map' (h.fam.own x hx) h.mem⟩, fun k cs e z hk => ?_⟩
  exact (hg.block k (Array.getElem?_eq_some_iff.1 hk).1 (fun e => map_not_cells h.mem hk (by injection e))).trans hk
theorem map_by_row {b e s n kb m : Nat} {x : Value} {xs : List Value} {N : DataW Unit} (h : W.ownsRow b e s x n xs) (hm : iiMap W kb m N) (hg : W.grownBy W' x.ownBlock) : iiMap W' kb m N := by
  refine hm.kept hg fun e' => ?_
  rcases row_not_map' h hm with h1 | h1
  · rw [h1] at e'; cases e'
  · exact h1 e'.symm
/-- One more is met. -/
theorem NuR.growF (h : NuR w W nb nn mb mn N1 N2 Af p cf met Ao q co cur ex hs) {A9 : Option Addr} {c9 z : Nat} (hg : W.grownBy W' (Value.slice Af p cf).ownBlock) (hy : W'.ownsRow w.heap.size 3 1 (.slice A9 (p + 1) c9) (p + 1) ((met.map fun z : Nat => Value.int .i64 (z : Int)) ++ [.int .i64 (z : Int)])) :
    NuR w W' nb nn mb mn N1 N2 A9 (p + 1) c9 (met ++ [z]) Ao q co cur ex hs ∧ ∀ (k : Nat) (cs : Array Value) (e : TypeId) (z : Nat × Nat), e ≠ 3 → W.heap[k]? = some (.cells cs e z) → W'.heap[k]? = some (.cells cs e z) := by
  refine ⟨⟨h.bel.grown hg h.bel.size (fun r hr => (h.fst.lt r hr).1), map_by_row h.fst h.num hg, map_by_row h.fst h.mem hg, h.ne, h.nlo, h.mlo, ?_, h.out.kept hg (own_types h.fst h.out (by decide)), h.fam.kept hg fun x hx => own_types h.fst (h.fam.own x hx) (by decide)⟩, fun k cs e z he hk => blk_kept h.fst hg hk he⟩
  rw [List.map_append]
  exact hy
/-- One arc more. -/
theorem NuR.growC (h : NuR w W nb nn mb mn N1 N2 Af p cf met Ao q co cur ex hs) {y : GRow} (hg : W.grownBy W' cur.v.ownBlock) (hy : y.own W' w.heap.size 41 3) (hm : y.v.ownBlock = cur.v.ownBlock ∨ ∃ g, y.v.ownBlock = some g ∧ W.heap.size ≤ g) :
    NuR w W' nb nn mb mn N1 N2 Af p cf met Ao q co y ex hs ∧ ∀ (k : Nat) (cs : Array Value) (e : TypeId) (z : Nat × Nat), e ≠ 41 → W.heap[k]? = some (.cells cs e z) → W'.heap[k]? = some (.cells cs e z) := by
  have hr : W.ownsRow w.heap.size 41 3 cur.v cur.n cur.xs := h.fam.own cur (List.mem_cons_self ..)
  refine ⟨⟨h.bel.grown hg h.bel.size (fun r hq => (hr.lt r hq).1), map_by_row hr h.num hg, map_by_row hr h.mem hg, h.ne, h.nlo, h.mlo, h.fst.kept hg (own_types hr h.fst (by decide)), h.out.kept hg (own_types hr h.out (by decide)), h.fam.head hg hy hm⟩, fun k cs e z he hk => blk_kept hr hg hk he⟩
/-- One state more is made. -/
theorem NuR.growO {x : Sh} (h : NuR w W nb nn mb mn N1 N2 Af p cf met Ao q co x.row [] hs) {A9 : Option Addr} {c9 : Nat} (hg : W.grownBy W' (Value.slice Ao q co).ownBlock) (hy : W'.ownsRow w.heap.size 39 2 (.slice A9 (q + 1) c9) (q + 1) (hs.flatMap Sh.hdr ++ x.hdr)) :
    NuR w W' nb nn mb mn N1 N2 Af p cf met A9 (q + 1) c9 GRow.nil [] (hs ++ [x]) := by
  refine ⟨h.bel.grown hg h.bel.size (fun r hr => (h.out.lt r hr).1), map_by_row h.out h.num hg, map_by_row h.out h.mem hg, h.ne, h.nlo, h.mlo, h.fst.kept hg (own_types h.out h.fst (by decide)), ?_, ?_⟩
  · rw [List.flatMap_append]
    simpa using hy
  · have h1 := (h.fam.turn.kept hg fun z hz => own_types h.out (h.fam.turn.own z hz) (by decide)).cons_nil
    rw [List.nil_append] at h1 ⊢
    rw [List.map_append]
    exact h1
end
/-- The map of numbers tells which class has which number. -/
structure NumIs (N : DataW Unit) (cls : Nat → Nat) (met : List Nat) : Prop where
  map : Maps.IsMap N
  has : ∀ k : Nat, hasI N k = (findI (fun z => decide (cls z = k)) met).isSome
  num : ∀ k i : Nat, findI (fun z => decide (cls z = k)) met = some i → numI N k = (i : Int)
theorem NumIs.put {N : DataW Unit} {cls : Nat → Nat} {met : List Nat} (h : NumIs N cls met) {k z : Nat} (hk : findI (fun z => decide (cls z = k)) met = none) (hz : cls z = k) : NumIs (N.put (.int .i64 (k : Int)) (.lit (.int .i64 (met.length : Nat)))) cls (met ++ [z]) := by
  refine ⟨h.map.put _ _, fun j => ?_, fun j i hj => ?_⟩
  · rw [hasI_put h.map, h.has j, findI_append]
    by_cases e : j = k
    · subst e
      rw [hk]
      simp [findI, hz]
    · have : ¬ (j : Int) = (k : Int) := by omega
      rw [decide_eq_false this, Bool.false_or]
      cases hf : findI (fun z => decide (cls z = j)) met with
      | some i => rfl
      | none => simp [findI, hz, show ¬ k = j from fun e' => e e'.symm]
  · rw [numI_put h.map]
    rw [findI_append] at hj
    by_cases e : j = k
    · subst e
      rw [hk] at hj
      simp [findI, hz] at hj
      rw [if_pos rfl, hj]
    · rw [if_neg (by omega)]
      cases hf : findI (fun z => decide (cls z = j)) met with
      | some q => rw [hf] at hj; injection hj with hj; subst hj; exact h.num j q hf
      | none =>
        rw [hf] at hj
        simp [findI, hz, show ¬ k = j from fun e' => e e'.symm] at hj
theorem own_cell3 {W : World} {b n g c j q : Nat} {l : List Arc3} {a : Arc3} {u : Value} (h : W.ownsRow b 41 3 (.slice (some ⟨g, 0, none⟩) n c) n (arcsC l)) (ha : l[j]? = some a) (hu : (arcC a)[q]? = some u) (hq : q < 3) : W.cell? ⟨g, j * 3 + q, none⟩ = some u := by
  have := h.cells (g := g) rfl (j * 3 + q) u (by unfold arcsC; rw [flat_at arcC 3 (fun _ => rfl) l j q a ha hq]; exact hu)
  rwa [Addr.add_lit, Nat.zero_add] at this
/-- Arcs to classes are the runs of the classes that bytes lead to. -/
theorem led_gOf {d : List St} {L : List Bool} {C : List Int} (hg : Good d) (hl : ∀ (x : Nat) b, L[x]? = some b → (b = true ↔ (auOf d).live x)) (hL : L.length = d.length) {x : Nat} {s : St} (hs : d[x]? = some s) : ledA (ledF L C) s.2 = runs (gOf d (fun x => (C.getD x 0).toNat) x) 256 := by
  have hsm := List.mem_of_getElem? hs
  rw [ledA_runs (ledF L C) s.2 256 (hg.asc s hsm)]
  refine runs_congr 256 fun c _ => ?_
  have hst : (auOf d).step x c = (lookA s.2 c).map Int.toNat := by
    show (d[x]?).bind (fun s => (lookA s.2 c).map Int.toNat) = _
    rw [hs]
    rfl
  unfold gOf Au.stepL
  rw [hst]
  cases hk : lookA s.2 (c : Int) with
  | none => rfl
  | some k =>
    obtain ⟨a, ha, hak, _⟩ := lookA_some hk
    have hkb := hg.to_ s hsm a ha
    rw [hak] at hkb
    have hkn : k.toNat < d.length := by omega
    obtain ⟨b, hb⟩ : ∃ b, L[k.toNat]? = some b := ⟨L[k.toNat]'(by omega), List.getElem?_eq_getElem _⟩
    have hlb := hl _ b hb
    simp only [Option.map_some, Option.bind_some]
    unfold ledF
    rw [List.getD_eq_getElem?_getD, hb]
    cases b with
    | true =>
      rw [if_pos (hlb.1 rfl)]
      simp
    | false =>
      have hn : ¬ (auOf d).live k.toNat := fun h => by have := hlb.2 h; cases this
      simp [hn]
theorem NuR.enter {w W W' : World} {nb nn mb mn : Nat} {N1 N2 : DataW Unit} {Af : Option Addr} {p cf : Nat} {met : List Nat} {Ao : Option Addr} {q co : Nat} {cur y : GRow} {hs : List Sh} (h : NuR w W nb nn mb mn N1 N2 Af p cf met Ao q co cur [] hs) (hb : Below W.heap.size W W') (hy : y.own W' W.heap.size 41 3) : NuR w W' nb nn mb mn N1 N2 Af p cf met Ao q co cur [y] hs := by
  have h1 := h.keep hb
  exact ⟨h1.bel, h1.num, h1.mem, h1.ne, h1.nlo, h1.mlo, h1.fst, h1.out, (h.fam.fresh hb h.bel.size hy).swap⟩
theorem NuR.leave {w W : World} {nb nn mb mn : Nat} {N1 N2 : DataW Unit} {Af : Option Addr} {p cf : Nat} {met : List Nat} {Ao : Option Addr} {q co : Nat} {cur y : GRow} {hs : List Sh} (h : NuR w W nb nn mb mn N1 N2 Af p cf met Ao q co cur [y] hs) : NuR w W nb nn mb mn N1 N2 Af p cf met Ao q co cur [] hs :=
  ⟨h.bel, h.num, h.mem, h.ne, h.nlo, h.mlo, h.fst, h.out, h.fam.swap.tail⟩
theorem numA_snoc (cls : Nat → Nat) (met : List Nat) (A : List Arc3) (a : Arc3) : numA cls met (A ++ [a]) = numA cls met A ++ [(a.1, a.2.1, (numK cls met a.2.2.toNat : Int))] := by
  unfold numA
  rw [List.map_append]
  rfl
theorem next_some {cls rep : Nat → Nat} {met : List Nat} {T : List Arc3} {lo hi : Int} {k q : Nat} (hf : findI (fun z => decide (cls z = k)) met = some q) : addC cls rep met k = met ∧ numA cls met (T ++ [(lo, hi, (k : Int))]) = numA cls met T ++ [(lo, hi, (q : Int))] := by
  refine ⟨addC_again hf, ?_⟩
  rw [numA_snoc]
  simp only [Int.toNat_natCast]
  unfold numK
  rw [hf]
  rfl
theorem next_none {cls rep : Nat → Nat} {met : List Nat} {T : List Arc3} {lo hi : Int} {k : Nat} (hf : findI (fun z => decide (cls z = k)) met = none) (hr : cls (rep k) = k) (hall : ∀ b ∈ T, ∃ i, findI (fun z => decide (cls z = b.2.2.toNat)) met = some i) : addC cls rep met k = met ++ [rep k] ∧ numA cls (met ++ [rep k]) (T ++ [(lo, hi, (k : Int))]) = numA cls met T ++ [(lo, hi, (met.length : Int))] := by
  constructor
  · unfold addC
    rw [hf]
    rfl
  · rw [numA_snoc, numA_more hall]
    simp only [Int.toNat_natCast]
    unfold numK
    rw [findI_append, hf]
    simp [findI, hr]
end Go.Proofs.YtebdffabfimmkaaDoor
/- Rows of numbers, sorted and made compact. (The seat's shelf lays slices.Sort and slices.Compact.) -/
namespace Go.Proofs.YtebdffabfimmkaaDoor
open Go.RowKit Go.Sort

def sorted (zs : List Int) : List Int := zs.mergeSort fun x y => decide (x ≤ y)
theorem sorted_mem (zs : List Int) (x : Int) : x ∈ sorted zs ↔ x ∈ zs := List.mem_mergeSort
theorem sorted_len (zs : List Int) : (sorted zs).length = zs.length := List.length_mergeSort _
theorem sorted_le (zs : List Int) : (sorted zs).Pairwise fun x y => x ≤ y := by
  have h := List.pairwise_mergeSort (le := fun x y : Int => decide (x ≤ y)) (fun a b c h1 h2 => by simp at h1 h2 ⊢; omega) (fun a b => by simp; omega) zs
  exact h.imp fun h => by simpa using h
theorem sorted_lt {zs : List Int} (h : zs.Nodup) : (sorted zs).Pairwise fun x y => x < y := by
  have hn : (sorted zs).Nodup := (List.mergeSort_perm zs _).nodup_iff.2 h
  exact ((sorted_le zs).and hn).imp fun ⟨h1, h2⟩ => by omega
/-- Two rising lists with the same elements. -/
theorem lt_ext : ∀ {l m : List Int}, l.Pairwise (fun x y => x < y) → m.Pairwise (fun x y => x < y) → (∀ x, x ∈ l ↔ x ∈ m) → l = m
  | [], [], _, _, _ => rfl
  | [], y :: m, _, _, h => absurd ((h y).2 (List.mem_cons_self ..)) List.not_mem_nil
  | x :: l, [], _, _, h => absurd ((h x).1 (List.mem_cons_self ..)) List.not_mem_nil
  | x :: l, y :: m, h1, h2, h => by
    obtain ⟨a1, a2⟩ := List.pairwise_cons.1 h1
    obtain ⟨b1, b2⟩ := List.pairwise_cons.1 h2
    have hxy : x = y := by
      have hx := (h x).1 (List.mem_cons_self ..)
      have hy := (h y).2 (List.mem_cons_self ..)
      rcases List.mem_cons.1 hx with e | hx
      · exact e
      · rcases List.mem_cons.1 hy with e | hy
        · exact e.symm
        · have := b1 x hx; have := a1 y hy; omega
    subst hxy
    rw [lt_ext a2 b2 fun z => ?_]
    constructor
    · intro hz
      rcases List.mem_cons.1 ((h z).1 (List.mem_cons_of_mem _ hz)) with e | hz'
      · have := a1 z hz; omega
      · exact hz'
    · intro hz
      rcases List.mem_cons.1 ((h z).2 (List.mem_cons_of_mem _ hz)) with e | hz'
      · have := b1 z hz; omega
      · exact hz'
theorem compact_upto {d : Array Int} (hs : ∀ j, j + 1 < d.size → d[j]! ≤ d[j + 1]!) : ∀ m, m ≤ d.size → (Lib.compactUpTo d m).Pairwise (fun x y => x < y) ∧ (∀ x ∈ Lib.compactUpTo d m, (∃ j, j < m ∧ d[j]! = x) ∧ (0 < m → x ≤ d[m - 1]!)) ∧ ∀ j, j < m → d[j]! ∈ Lib.compactUpTo d m
  | 0, _ => by
    have : Lib.compactUpTo d 0 = [] := rfl
    rw [this]
    exact ⟨List.Pairwise.nil, fun x hx => absurd hx List.not_mem_nil, fun j hj => absurd hj (Nat.not_lt_zero _)⟩
  | m + 1, hm => by
    obtain ⟨i1, i2, i3⟩ := compact_upto hs m (by omega)
    rw [Lib.compactUpTo_succ]
    have hprev : 0 < m → d[m - 1]! ≤ d[m]! := fun h0 => by
      have := hs (m - 1) (by omega)
      rwa [show m - 1 + 1 = m by omega] at this
    have hle : ∀ x ∈ Lib.compactUpTo d m, x ≤ d[m]! := fun x hx => by
      obtain ⟨⟨j, hj, _⟩, h2⟩ := i2 x hx
      have := h2 (by omega)
      have := hprev (by omega)
      omega
    by_cases hk : Lib.keeps d m = true
    · rw [if_pos hk]
      refine ⟨List.pairwise_append.2 ⟨i1, List.pairwise_singleton _ _, fun x hx y hy => ?_⟩, fun x hx => ?_, fun j hj => ?_⟩
      · rw [List.mem_singleton.1 hy]
        obtain ⟨⟨j, hj, _⟩, h2⟩ := i2 x hx
        have h3 := h2 (by omega)
        have h4 := hprev (by omega)
        have h5 : d[m]! ≠ d[m - 1]! := by
          intro e
          rw [Lib.keeps_neg (by omega) e] at hk
          cases hk
        omega
      · rw [Nat.add_sub_cancel]
        rcases List.mem_append.1 hx with hx | hx
        · obtain ⟨⟨j, hj, h1⟩, _⟩ := i2 x hx
          exact ⟨⟨j, by omega, h1⟩, fun _ => hle x hx⟩
        · rw [List.mem_singleton.1 hx]
          exact ⟨⟨m, by omega, rfl⟩, fun _ => Int.le_refl _⟩
      · by_cases e : j = m
        · rw [e]; exact List.mem_append_right _ (List.mem_singleton.2 rfl)
        · exact List.mem_append_left _ (i3 j (by omega))
    · rw [if_neg hk, List.append_nil]
      have hm0 : 0 < m := by
        rcases Nat.eq_zero_or_pos m with h0 | h0
        · subst h0; exact absurd (Lib.keeps_lt_one d 0 (by omega)) hk
        · exact h0
      have he : d[m]! = d[m - 1]! := by
        apply Classical.byContradiction
        intro hne
        exact hk (Lib.keeps_pos hne)
      refine ⟨i1, fun x hx => ?_, fun j hj => ?_⟩
      · rw [Nat.add_sub_cancel]
        obtain ⟨⟨j, hj, h1⟩, _⟩ := i2 x hx
        exact ⟨⟨j, by omega, h1⟩, fun _ => hle x hx⟩
      · by_cases e : j = m
        · rw [e, he]; exact i3 (m - 1) (by omega)
        · exact i3 j (by omega)
theorem compact_sorted {zs : List Int} (h : zs.Pairwise fun x y => x ≤ y) : (Lib.compact zs).Pairwise (fun x y => x < y) ∧ ∀ x, x ∈ Lib.compact zs ↔ x ∈ zs := by
  have hget : ∀ j, j < zs.length → zs.toArray[j]! = zs[j]?.getD 0 := fun j hj => by
    rw [getElem!_pos _ j (by simpa using hj), List.getElem?_eq_getElem hj]
    rfl
  have hs : ∀ j, j + 1 < zs.toArray.size → zs.toArray[j]! ≤ zs.toArray[j + 1]! := fun j hj => by
    have hj' : j + 1 < zs.length := by simpa using hj
    rw [hget j (by omega), hget (j + 1) hj', List.getElem?_eq_getElem (by omega), List.getElem?_eq_getElem hj']
    exact List.pairwise_iff_getElem.1 h j (j + 1) (by omega) hj' (by omega)
  obtain ⟨h1, h2, h3⟩ := compact_upto hs zs.length (by simp)
  refine ⟨h1, fun x => ⟨fun hx => ?_, fun hx => ?_⟩⟩
  · obtain ⟨⟨j, hj, e⟩, _⟩ := h2 x hx
    rw [hget j hj, List.getElem?_eq_getElem hj] at e
    rw [← e]
    exact List.getElem_mem hj
  · obtain ⟨j, hj⟩ := List.mem_iff_getElem?.1 hx
    have hjl := (List.getElem?_eq_some_iff.1 hj).1
    have := h3 j hjl
    rw [hget j hjl, hj] at this
    exact this
/-! ### In memory -/
theorem sort_own {W : World} {base n c : Nat} {A : Option Addr} {zs : List Int} (h : W.ownsRow base 3 1 (.slice A n c) n (zs.map (.int .i64))) (hn : n < 4611686018427387904) :
    Calls Tryd.prog 45 #[.slice A n c] W fun e w' => e = .returned (.tuple #[]) ∧ w'.ownsRow base 3 1 (.slice A n c) n ((sorted zs).map (.int .i64)) ∧ W.grownBy w' (Value.slice A n c).ownBlock := by
  have hl : zs.length = n := by simpa using h.1
  by_cases h0 : n = 0
  · subst h0
    have hz : zs = [] := List.eq_nil_of_length_eq_zero hl
    subst hz
    refine (Tryd.slices_Sort_int_none A c W).mono ?_
    rintro e w' ⟨rfl, rfl⟩
    exact ⟨rfl, by simpa [sorted] using h, World.grownBy.refl _ _⟩
  · obtain ⟨g, rfl, hb, hg⟩ := own_head h (by omega)
    obtain ⟨g', cap, hv, _, _, _, _, _, hH⟩ := Lib.holds_of_ownsRow h (by simp)
    injection hv with hv1 _ hv3
    injection hv1 with hv1
    injection hv1 with hv1 _ _
    subst hv1 hv3
    have hS := Tryd.slices_Sort_int g 0 c zs W hH hg (by omega)
    rw [hl] at hS
    refine hS.mono ?_
    rintro e w' ⟨rfl, q, os, rfl⟩
    obtain ⟨cap, cur, hv, h1, h2, h3, h4, h5⟩ : ∃ cap cur, c = cap ∧ W.heap[g]? = some (.cells cur 3 (0, 0)) ∧ n ≤ cap ∧ cap ≤ maxLen ∧ cur.size = cap * 1 ∧ base ≤ g := by
      rcases h.2 with ⟨hx, _⟩ | ⟨g2, cap, cur, hx, hb2, hg2, h1, h2, h3, _⟩
      · cases hx
      · injection hx with hx1 _ hx3
        injection hx1 with hx1
        injection hx1 with hx1 _ _
        subst hx1
        exact ⟨cap, cur, hx3, hg2, h1, h2, h3, hb2⟩
    subst hv
    have := ownsRow_sortedI (n := q) (os := os) (ss := zs) (ts := sorted zs) (sorted_len zs) h5 h1 (by omega) h3 h4
    rw [hl] at this
    exact ⟨rfl, this, grownBy_sortedI _⟩
theorem compact_own {W : World} {base n c : Nat} {A : Option Addr} {zs : List Int} (h : W.ownsRow base 3 1 (.slice A n c) n (zs.map (.int .i64))) (hn : n < 4611686018427387904) (h0 : 0 < n) :
    Calls Tryd.prog 46 #[.slice A n c] W fun e w' => e = .returned (.slice A (Lib.compact zs).length c) ∧ w'.ownsRow base 3 1 (.slice A (Lib.compact zs).length c) (Lib.compact zs).length ((Lib.compact zs).map (.int .i64)) ∧ W.grownBy w' (Value.slice A n c).ownBlock := by
  have hl : zs.length = n := by simpa using h.1
  obtain ⟨g, rfl, hb, hg⟩ := own_head h (by omega)
  obtain ⟨g', cap, hv, _, _, hnc, _, _, hH⟩ := Lib.holds_of_ownsRow h (by simp)
  injection hv with hv1 _ hv3
  injection hv1 with hv1
  injection hv1 with hv1 _ _
  subst hv1 hv3
  have hS := Tryd.slices_Compact_int g 0 c zs W hH (by omega) (by omega)
  rw [hl] at hS
  refine hS.mono ?_
  rintro e w' ⟨rfl, q, rfl⟩
  have hle := Lib.compact_length_le zs
  have := Lib.ownsRow_putRow (q := q) (k := (Lib.compact zs).length) (ys := Lib.compact zs ++ List.replicate (n - (Lib.compact zs).length) 0) h (by rw [List.length_append, List.length_replicate]; omega) (by omega)
  rw [List.take_left' rfl] at this
  refine ⟨rfl, this, ?_⟩
  have := grownBy_sortedI (w := W) (g := g) (n := q) (os := #[]) (Lib.compact zs ++ List.replicate (n - (Lib.compact zs).length) 0).toArray
  rw [grow_empty] at this
  exact this
end Go.Proofs.YtebdffabfimmkaaDoor
