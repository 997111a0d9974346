/- dfa.numbered in memory: two maps, the states met, the states made. -/
import Derived.Test.YtebdffabfimmkaaDoorHDfaTakes25
import Derived.Test.YtebdffabfimmkaaDoorHDfaTakes9
import Derived.Test.YtebdffabfimmkaaDoorHDfaTakes26
import Derived.Test.YtebdffabfimmkaaDoorHDfaTakes16
namespace Go.Proofs.YtebdffabfimmkaaDoor
open Go.RowKit

theorem el_state : Elem Tryd.prog 22 39 2 32 := Elem.mk_ Tryd.underlying22 (z := .agg #[.bool false, .slice none 0 0]) (by kernel_rfl) rfl (by omega)
def Sh.row (x : Sh) : GRow := ⟨.slice x.A x.d.2.length x.c, x.d.2.length, arcsC x.d.2⟩
/-- States of the call's own. -/
structure OwnSts (W : World) (base : Nat) (v : Value) (hs : List Sh) : Prop where
  out : W.ownsRow base 39 2 v hs.length (hs.flatMap Sh.hdr)
  fam : GFam W base 41 3 (hs.map Sh.row)
theorem OwnSts.keep {W W' : World} {base : Nat} {v : Value} {hs : List Sh} (h : OwnSts W base v hs) (hb : Below W.heap.size W W') : OwnSts W' base v hs := ⟨own_kept h.out hb, h.fam.below hb⟩
theorem OwnSts.sts {W : World} {base n c : Nat} {A : Option Addr} {hs : List Sh} (h : OwnSts W base (.slice A n c) hs) (hn : hs.length = n) (hm : n ≤ 140737488355328) (hs2 : ∀ x ∈ hs, x.d.2.length ≤ 140737488355328) : StsIn W W.heap.size A n c hs := by
  subst hn
  obtain ⟨A1, c1, e1, h1⟩ := own_shape h.out
  injection e1 with _ _ e1
  refine ⟨rfl, Sl.of_own h.out, by omega, hm, fun x hx => ?_⟩
  have ho : W.ownsRow base 41 3 (.slice x.A x.d.2.length x.c) x.d.2.length (arcsC x.d.2) := h.fam.own x.row (List.mem_map.2 ⟨x, hx, rfl⟩)
  obtain ⟨A2, c2, e2, h2⟩ := own_shape ho
  injection e2 with _ _ e2
  exact ⟨Sl.of_own ho, by omega, hs2 x hx⟩
structure NuR (w W : World) (nb nn mb mn : Nat) (N1 N2 : DataW Unit) (Af : Option Addr) (p cf : Nat) (met : List Nat) (Ao : Option Addr) (q co : Nat) (cur : GRow) (ex : List GRow) (hs : List Sh) : Prop where
  bel : Below w.heap.size w W
  num : iiMap W nb nn N1
  mem : iiMap W mb mn N2
  ne : nb ≠ mb
  nlo : w.heap.size ≤ nb
  mlo : w.heap.size ≤ mb
  fst : W.ownsRow w.heap.size 3 1 (.slice Af p cf) p (met.map fun z : Nat => Value.int .i64 (z : Int))
  out : W.ownsRow w.heap.size 39 2 (.slice Ao q co) q (hs.flatMap Sh.hdr)
  fam : GFam W w.heap.size 41 3 (cur :: (ex ++ hs.map Sh.row))
section
variable {w W W' : World} {nb nn mb mn : Nat} {N1 N2 : DataW Unit} {Af : Option Addr} {p cf : Nat} {met : List Nat} {Ao : Option Addr} {q co : Nat} {cur : GRow} {ex : List GRow} {hs : List Sh}
theorem NuR.keep (h : NuR w W nb nn mb mn N1 N2 Af p cf met Ao q co cur ex hs) (hb : Below W.heap.size W W') : NuR w W' nb nn mb mn N1 N2 Af p cf met Ao q co cur ex hs :=
  ⟨bcall h.bel hb, mapI_keep h.num hb, mapI_keep h.mem hb, h.ne, h.nlo, h.mlo, own_kept h.fst hb, own_kept h.out hb, h.fam.below hb⟩
/-- A store into the map of numbers. -/
theorem NuR.putN (h : NuR w W nb nn mb mn N1 N2 Af p cf met Ao q co cur ex hs) {N3 : DataW Unit} (hm : iiMap W' nb (nn + 1) N3) (hg : W.grownBy W' (some nb)) :
    NuR w W' nb (nn + 1) mb mn N3 N2 Af p cf met Ao q co cur ex hs ∧ ∀ (k : Nat) (cs : Array Value) (e : TypeId) (z : Nat × Nat), W.heap[k]? = some (.cells cs e z) → W'.heap[k]? = some (.cells cs e z) := by
  refine ⟨⟨h.bel.grown hg h.bel.size (fun r hr => by injection hr with hr; have := h.nlo; omega), hm, h.mem.kept hg (fun e => h.ne (by injection e with e; exact e.symm)), h.ne, h.nlo, h.mlo, h.fst.kept hg (row_not_map' h.fst h.num), h.out.kept hg (row_not_map' h.out h.num), h.fam.kept hg fun x hx => row_not_map' (h.fam.own x hx) h.num⟩, fun k cs e z hk => ?_⟩
  exact (hg.block k (Array.getElem?_eq_some_iff.1 hk).1 (fun e => map_not_cells h.num hk (by injection e))).trans hk
theorem NuR.putM (h : NuR w W nb nn mb mn N1 N2 Af p cf met Ao q co cur ex hs) {N3 : DataW Unit} (hm : iiMap W' mb (mn + 1) N3) (hg : W.grownBy W' (some mb)) :
    NuR w W' nb nn mb (mn + 1) N1 N3 Af p cf met Ao q co cur ex hs ∧ ∀ (k : Nat) (cs : Array Value) (e : TypeId) (z : Nat × Nat), W.heap[k]? = some (.cells cs e z) → W'.heap[k]? = some (.cells cs e z) := by
  refine ⟨⟨h.bel.grown hg h.bel.size (fun r hr => by injection hr with hr; have := h.mlo; omega), h.num.kept hg (fun e => h.ne (by injection e with e)), hm, h.ne, h.nlo, h.mlo, h.fst.kept hg (row_not_map' h.fst h.mem), h.out.kept hg (row_not_map' h.out h.mem), h.fam.kept hg fun x hx => row_not_map' (h.fam.own x hx) h.mem⟩, fun k cs e z hk => ?_⟩
  exact (hg.block k (Array.getElem?_eq_some_iff.1 hk).1 (fun e => map_not_cells h.mem hk (by injection e))).trans hk
theorem map_by_row {b e s n kb m : Nat} {x : Value} {xs : List Value} {N : DataW Unit} (h : W.ownsRow b e s x n xs) (hm : iiMap W kb m N) (hg : W.grownBy W' x.ownBlock) : iiMap W' kb m N := by
  refine hm.kept hg fun e' => ?_
  rcases row_not_map' h hm with h1 | h1
  · rw [h1] at e'; cases e'
  · exact h1 e'.symm
/-- One more is met. -/
theorem NuR.growF (h : NuR w W nb nn mb mn N1 N2 Af p cf met Ao q co cur ex hs) {A9 : Option Addr} {c9 z : Nat} (hg : W.grownBy W' (Value.slice Af p cf).ownBlock) (hy : W'.ownsRow w.heap.size 3 1 (.slice A9 (p + 1) c9) (p + 1) ((met.map fun z : Nat => Value.int .i64 (z : Int)) ++ [.int .i64 (z : Int)])) :
    NuR w W' nb nn mb mn N1 N2 A9 (p + 1) c9 (met ++ [z]) Ao q co cur ex hs ∧ ∀ (k : Nat) (cs : Array Value) (e : TypeId) (z : Nat × Nat), e ≠ 3 → W.heap[k]? = some (.cells cs e z) → W'.heap[k]? = some (.cells cs e z) := by
  refine ⟨⟨h.bel.grown hg h.bel.size (fun r hr => (h.fst.lt r hr).1), map_by_row h.fst h.num hg, map_by_row h.fst h.mem hg, h.ne, h.nlo, h.mlo, ?_, h.out.kept hg (own_types h.fst h.out (by decide)), h.fam.kept hg fun x hx => own_types h.fst (h.fam.own x hx) (by decide)⟩, fun k cs e z he hk => blk_kept h.fst hg hk he⟩
  rw [List.map_append]
  exact hy
/-- One arc more. -/
theorem NuR.growC (h : NuR w W nb nn mb mn N1 N2 Af p cf met Ao q co cur ex hs) {y : GRow} (hg : W.grownBy W' cur.v.ownBlock) (hy : y.own W' w.heap.size 41 3) (hm : y.v.ownBlock = cur.v.ownBlock ∨ ∃ g, y.v.ownBlock = some g ∧ W.heap.size ≤ g) :
    NuR w W' nb nn mb mn N1 N2 Af p cf met Ao q co y ex hs ∧ ∀ (k : Nat) (cs : Array Value) (e : TypeId) (z : Nat × Nat), e ≠ 41 → W.heap[k]? = some (.cells cs e z) → W'.heap[k]? = some (.cells cs e z) := by
  have hr : W.ownsRow w.heap.size 41 3 cur.v cur.n cur.xs := h.fam.own cur (List.mem_cons_self ..)
  refine ⟨⟨h.bel.grown hg h.bel.size (fun r hq => (hr.lt r hq).1), map_by_row hr h.num hg, map_by_row hr h.mem hg, h.ne, h.nlo, h.mlo, h.fst.kept hg (own_types hr h.fst (by decide)), h.out.kept hg (own_types hr h.out (by decide)), h.fam.head hg hy hm⟩, fun k cs e z he hk => blk_kept hr hg hk he⟩
/-- One state more is made. -/
theorem NuR.growO {x : Sh} (h : NuR w W nb nn mb mn N1 N2 Af p cf met Ao q co x.row [] hs) {A9 : Option Addr} {c9 : Nat} (hg : W.grownBy W' (Value.slice Ao q co).ownBlock) (hy : W'.ownsRow w.heap.size 39 2 (.slice A9 (q + 1) c9) (q + 1) (hs.flatMap Sh.hdr ++ x.hdr)) :
    NuR w W' nb nn mb mn N1 N2 Af p cf met A9 (q + 1) c9 GRow.nil [] (hs ++ [x]) := by
  refine ⟨h.bel.grown hg h.bel.size (fun r hr => (h.out.lt r hr).1), map_by_row h.out h.num hg, map_by_row h.out h.mem hg, h.ne, h.nlo, h.mlo, h.fst.kept hg (own_types h.out h.fst (by decide)), ?_, ?_⟩
  · rw [List.flatMap_append]
    simpa using hy
  · have h1 := (h.fam.turn.kept hg fun z hz => own_types h.out (h.fam.turn.own z hz) (by decide)).cons_nil
    rw [List.nil_append] at h1 ⊢
    rw [List.map_append]
    exact h1
end
/-- The map of numbers tells which class has which number. -/
structure NumIs (N : DataW Unit) (cls : Nat → Nat) (met : List Nat) : Prop where
  map : Maps.IsMap N
  has : ∀ k : Nat, hasI N k = (findI (fun z => decide (cls z = k)) met).isSome
  num : ∀ k i : Nat, findI (fun z => decide (cls z = k)) met = some i → numI N k = (i : Int)
theorem NumIs.put {N : DataW Unit} {cls : Nat → Nat} {met : List Nat} (h : NumIs N cls met) {k z : Nat} (hk : findI (fun z => decide (cls z = k)) met = none) (hz : cls z = k) : NumIs (N.put (.int .i64 (k : Int)) (.lit (.int .i64 (met.length : Nat)))) cls (met ++ [z]) := by
  refine ⟨h.map.put _ _, fun j => ?_, fun j i hj => ?_⟩
  · rw [hasI_put h.map, h.has j, findI_append]
    by_cases e : j = k
    · subst e
      rw [hk]
      simp [findI, hz]
    · have : ¬ (j : Int) = (k : Int) := by omega
      rw [decide_eq_false this, Bool.false_or]
      cases hf : findI (fun z => decide (cls z = j)) met with
      | some i => rfl
      | none => simp [findI, hz, show ¬ k = j from fun e' => e e'.symm]
  · rw [numI_put h.map]
    rw [findI_append] at hj
    by_cases e : j = k
    · subst e
      rw [hk] at hj
      simp [findI, hz] at hj
      rw [if_pos rfl, hj]
    · rw [if_neg (by omega)]
      cases hf : findI (fun z => decide (cls z = j)) met with
      | some q => rw [hf] at hj; injection hj with hj; subst hj; exact h.num j q hf
      | none =>
        rw [hf] at hj
        simp [findI, hz, show ¬ k = j from fun e' => e e'.symm] at hj
theorem own_cell3 {W : World} {b n g c j q : Nat} {l : List Arc3} {a : Arc3} {u : Value} (h : W.ownsRow b 41 3 (.slice (some ⟨g, 0, none⟩) n c) n (arcsC l)) (ha : l[j]? = some a) (hu : (arcC a)[q]? = some u) (hq : q < 3) : W.cell? ⟨g, j * 3 + q, none⟩ = some u := by
  have := h.cells (g := g) rfl (j * 3 + q) u (by unfold arcsC; rw [flat_at arcC 3 (fun _ => rfl) l j q a ha hq]; exact hu)
  rwa [Addr.add_lit, Nat.zero_add] at this
/-- Arcs to classes are the runs of the classes that bytes lead to. -/
theorem led_gOf {d : List St} {L : List Bool} {C : List Int} (hg : Good d) (hl : ∀ (x : Nat) b, L[x]? = some b → (b = true ↔ (auOf d).live x)) (hL : L.length = d.length) {x : Nat} {s : St} (hs : d[x]? = some s) : ledA (ledF L C) s.2 = runs (gOf d (fun x => (C.getD x 0).toNat) x) 256 := by
  have hsm := List.mem_of_getElem? hs
  rw [ledA_runs (ledF L C) s.2 256 (hg.asc s hsm)]
  refine runs_congr 256 fun c _ => ?_
  have hst : (auOf d).step x c = (lookA s.2 c).map Int.toNat := by
    show (d[x]?).bind (fun s => (lookA s.2 c).map Int.toNat) = _
    rw [hs]
    rfl
  unfold gOf Au.stepL
  rw [hst]
  cases hk : lookA s.2 (c : Int) with
  | none => rfl
  | some k =>
    obtain ⟨a, ha, hak, _⟩ := lookA_some hk
    have hkb := hg.to_ s hsm a ha
    rw [hak] at hkb
    have hkn : k.toNat < d.length := by omega
    obtain ⟨b, hb⟩ : ∃ b, L[k.toNat]? = some b := ⟨L[k.toNat]'(by omega), List.getElem?_eq_getElem _⟩
    have hlb := hl _ b hb
    simp only [Option.map_some, Option.bind_some]
    unfold ledF
    rw [List.getD_eq_getElem?_getD, hb]
    cases b with
    | true =>
      rw [if_pos (hlb.1 rfl)]
      simp
    | false =>
      have hn : ¬ (auOf d).live k.toNat := fun h => by have := hlb.2 h; cases this
      simp [hn]
theorem NuR.enter {w W W' : World} {nb nn mb mn : Nat} {N1 N2 : DataW Unit} {Af : Option Addr} {p cf : Nat} {met : List Nat} {Ao : Option Addr} {q co : Nat} {cur y : GRow} {hs : List Sh} (h : NuR w W nb nn mb mn N1 N2 Af p cf met Ao q co cur [] hs) (hb : Below W.heap.size W W') (hy : y.own W' W.heap.size 41 3) : NuR w W' nb nn mb mn N1 N2 Af p cf met Ao q co cur [y] hs := by
  have h1 := h.keep hb
  exact ⟨h1.bel, h1.num, h1.mem, h1.ne, h1.nlo, h1.mlo, h1.fst, h1.out, (h.fam.fresh hb h.bel.size hy).swap⟩
theorem NuR.leave {w W : World} {nb nn mb mn : Nat} {N1 N2 : DataW Unit} {Af : Option Addr} {p cf : Nat} {met : List Nat} {Ao : Option Addr} {q co : Nat} {cur y : GRow} {hs : List Sh} (h : NuR w W nb nn mb mn N1 N2 Af p cf met Ao q co cur [y] hs) : NuR w W nb nn mb mn N1 N2 Af p cf met Ao q co cur [] hs :=
  ⟨h.bel, h.num, h.mem, h.ne, h.nlo, h.mlo, h.fst, h.out, h.fam.swap.tail⟩
theorem numA_snoc (cls : Nat → Nat) (met : List Nat) (A : List Arc3) (a : Arc3) : numA cls met (A ++ [a]) = numA cls met A ++ [(a.1, a.2.1, (numK cls met a.2.2.toNat : Int))] := by
  unfold numA
  rw [List.map_append]
  rfl
theorem next_some {cls rep : Nat → Nat} {met : List Nat} {T : List Arc3} {lo hi : Int} {k q : Nat} (hf : findI (fun z => decide (cls z = k)) met = some q) : addC cls rep met k = met ∧ numA cls met (T ++ [(lo, hi, (k : Int))]) = numA cls met T ++ [(lo, hi, (q : Int))] := by
  refine ⟨addC_again hf, ?_⟩
  rw [numA_snoc]
  simp only [Int.toNat_natCast]
  unfold numK
  rw [hf]
  rfl
theorem next_none {cls rep : Nat → Nat} {met : List Nat} {T : List Arc3} {lo hi : Int} {k : Nat} (hf : findI (fun z => decide (cls z = k)) met = none) (hr : cls (rep k) = k) (hall : ∀ b ∈ T, ∃ i, findI (fun z => decide (cls z = b.2.2.toNat)) met = some i) : addC cls rep met k = met ++ [rep k] ∧ numA cls (met ++ [rep k]) (T ++ [(lo, hi, (k : Int))]) = numA cls met T ++ [(lo, hi, (met.length : Int))] := by
  constructor
  · unfold addC
    rw [hf]
    rfl
  · rw [numA_snoc, numA_more hall]
    simp only [Int.toNat_natCast]
    unfold numK
    rw [findI_append, hf]
    simp [findI, hr]
end Go.Proofs.YtebdffabfimmkaaDoor
