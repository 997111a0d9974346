/- dfa.numbered in memory: two maps, the states met, the states made. -/
import Derived.Test.YtebdffabfimmkaaDoorHDfaTight19
import Derived.Test.YtebdffabfimmkaaDoorHDfaTight9
import Derived.Test.YtebdffabfimmkaaDoorHDfaTight17
import Derived.Test.YtebdffabfimmkaaDoorHDfaTight13
import Derived.Test.YtebdffabfimmkaaDoorHDfaTight10
namespace Go.Proofs.YtebdffabfimmkaaDoor
open Go.RowKit

theorem el_state : Elem Tryd.prog 22 39 2 32 := Elem.mk_ Tryd.underlying22 (z := .agg #[.bool false, .slice none 0 0]) (by kernel_rfl) rfl (by omega)
def Sh.row (x : Sh) : GRow := ⟨.slice x.A x.d.2.length x.c, x.d.2.length, arcsC x.d.2⟩
/-- States of the call's own. -/
structure OwnSts (W : World) (base : Nat) (v : Value) (hs : List Sh) : Prop where
  out : W.ownsRow base 39 2 v hs.length (hs.flatMap Sh.hdr)
  fam : GFam W base 41 3 (hs.map Sh.row)
theorem OwnSts.keep {W W' : World} {base : Nat} {v : Value} {hs : List Sh} (h : OwnSts W base v hs) (hb : Below W.heap.size W W') : OwnSts W' base v hs := ⟨own_kept h.out hb, h.fam.below hb⟩
theorem OwnSts.sts {W : World} {base n c : Nat} {A : Option Addr} {hs : List Sh} (h : OwnSts W base (.slice A n c) hs) (hn : hs.length = n) (hm : n ≤ 140737488355328) (hs2 : ∀ x ∈ hs, x.d.2.length ≤ 140737488355328) : StsIn W W.heap.size A n c hs := by
  subst hn
  obtain ⟨A1, c1, e1, h1⟩ := own_shape h.out
  injection e1 with _ _ e1
  refine ⟨rfl, Sl.of_own h.out, by omega, hm, fun x hx => ?_⟩
  have ho : W.ownsRow base 41 3 (.slice x.A x.d.2.length x.c) x.d.2.length (arcsC x.d.2) := h.fam.own x.row (List.mem_map.2 ⟨x, hx, rfl⟩)
  obtain ⟨A2, c2, e2, h2⟩ := own_shape ho
  injection e2 with _ _ e2
  exact ⟨Sl.of_own ho, by omega, hs2 x hx⟩
structure NuR (w W : World) (nb nn mb mn : Nat) (N1 N2 : DataW Unit) (Af : Option Addr) (p cf : Nat) (met : List Nat) (Ao : Option Addr) (q co : Nat) (cur : GRow) (ex : List GRow) (hs : List Sh) : Prop where
  bel : Below w.heap.size w W
  num : iiMap W nb nn N1
  mem : iiMap W mb mn N2
  ne : nb ≠ mb
  nlo : w.heap.size ≤ nb
  mlo : w.heap.size ≤ mb
  fst : W.ownsRow w.heap.size 3 1 (.slice Af p cf) p (met.map fun z : Nat => Value.int .i64 (z : Int))
  out : W.ownsRow w.heap.size 39 2 (.slice Ao q co) q (hs.flatMap Sh.hdr)
  fam : GFam W w.heap.size 41 3 (cur :: (ex ++ hs.map Sh.row))
section
variable {w W W' : World} {nb nn mb mn : Nat} {N1 N2 : DataW Unit} {Af : Option Addr} {p cf : Nat} {met : List Nat} {Ao : Option Addr} {q co : Nat} {cur : GRow} {ex : List GRow} {hs : List Sh}
theorem NuR.keep (h : NuR w W nb nn mb mn N1 N2 Af p cf met Ao q co cur ex hs) (hb : Below W.heap.size W W') : NuR w W' nb nn mb mn N1 N2 Af p cf met Ao q co cur ex hs :=
  ⟨bcall h.bel hb, mapI_keep h.num hb, mapI_keep h.mem hb, h.ne, h.nlo, h.mlo, own_kept h.fst hb, own_kept h.out hb, h.fam.below hb⟩
/-- A store into the map of numbers. -/
theorem NuR.putN (h : NuR w W nb nn mb mn N1 N2 Af p cf met Ao q co cur ex hs) {N3 : DataW Unit} (hm : iiMap W' nb (nn + 1) N3) (hg : W.grownBy W' (some nb)) :
    NuR w W' nb (nn + 1) mb mn N3 N2 Af p cf met Ao q co cur ex hs ∧ ∀ (k : Nat) (cs : Array Value) (e : TypeId) (z : Nat × Nat), W.heap[k]? = some (.cells cs e z) → W'.heap[k]? = some (.cells cs e z) := by
  refine ⟨⟨h.bel.grown hg h.bel.size (fun r hr => by injection hr with hr; have := h.nlo; omega), hm, h.mem.kept hg (fun e => h.ne (by injection e with e; exact e.symm)), h.ne, h.nlo, h.mlo, h.fst.kept hg (row_not_map' h.fst h.num), h.out.kept hg (row_not_map' h.out h.num), h.fam.kept hg fun x hx => row_not_map' (h.fam.own x hx) h.num⟩, fun k cs e z hk => ?_⟩
  exact (hg.block k (Array.getElem?_eq_some_iff.1 hk).1 (fun e => map_not_cells h.num hk (by injection e))).trans hk
theorem NuR.putM (h : NuR w W nb nn mb mn N1 N2 Af p cf met Ao q co cur ex hs) {N3 : DataW Unit} (hm : iiMap W' mb (mn + 1) N3) (hg : W.grownBy W' (some mb)) :
    NuR w W' nb nn mb (mn + 1) N1 N3 Af p cf met Ao q co cur ex hs ∧ ∀ (k : Nat) (cs : Array Value) (e : TypeId) (z : Nat × Nat), W.heap[k]? = some (.cells cs e z) → W'.heap[k]? = some (.cells cs e z) := by
  refine ⟨⟨h.bel.grown hg h.bel.size (fun r hr => by injection hr with hr; have := h.mlo; omega), h.num.kept hg (fun e => h.ne (by injection e with e)), hm, h.ne, h.nlo, h.mlo, h.fst.kept hg (row_not_map' h.fst h.mem), h.out.kept hg (row_not_map' h.out h.mem), h.fam.kept hg fun x hx => row_not_map' (h.fam.own x hx) h.mem⟩, fun k cs e z hk => ?_⟩
  exact (hg.block k (Array.getElem?_eq_some_iff.1 hk).1 (fun e => map_not_cells h.mem hk (by injection e))).trans hk
theorem map_by_row {b e s n kb m : Nat} {x : Value} {xs : List Value} {N : DataW Unit} (h : W.ownsRow b e s x n xs) (hm : iiMap W kb m N) (hg : W.grownBy W' x.ownBlock) : iiMap W' kb m N := by
  refine hm.kept hg fun e' => ?_
  rcases row_not_map' h hm with h1 | h1
  · rw [h1] at e'; cases e'
  · exact h1 e'.symm
/-- One more is met. -/
theorem NuR.growF (h : NuR w W nb nn mb mn N1 N2 Af p cf met Ao q co cur ex hs) {A9 : Option Addr} {c9 z : Nat} (hg : W.grownBy W' (Value.slice Af p cf).ownBlock) (hy : W'.ownsRow w.heap.size 3 1 (.slice A9 (p + 1) c9) (p + 1) ((met.map fun z : Nat => Value.int .i64 (z : Int)) ++ [.int .i64 (z : Int)])) :
    NuR w W' nb nn mb mn N1 N2 A9 (p + 1) c9 (met ++ [z]) Ao q co cur ex hs ∧ ∀ (k : Nat) (cs : Array Value) (e : TypeId) (z : Nat × Nat), e ≠ 3 → W.heap[k]? = some (.cells cs e z) → W'.heap[k]? = some (.cells cs e z) := by
  refine ⟨⟨h.bel.grown hg h.bel.size (fun r hr => (h.fst.lt r hr).1), map_by_row h.fst h.num hg, map_by_row h.fst h.mem hg, h.ne, h.nlo, h.mlo, ?_, h.out.kept hg (own_types h.fst h.out (by decide)), h.fam.kept hg fun x hx => own_types h.fst (h.fam.own x hx) (by decide)⟩, fun k cs e z he hk => blk_kept h.fst hg hk he⟩
  rw [List.map_append]
  exact hy
/-- One arc more. -/
theorem NuR.growC (h : NuR w W nb nn mb mn N1 N2 Af p cf met Ao q co cur ex hs) {y : GRow} (hg : W.grownBy W' cur.v.ownBlock) (hy : y.own W' w.heap.size 41 3) (hm : y.v.ownBlock = cur.v.ownBlock ∨ ∃ g, y.v.ownBlock = some g ∧ W.heap.size ≤ g) :
    NuR w W' nb nn mb mn N1 N2 Af p cf met Ao q co y ex hs ∧ ∀ (k : Nat) (cs : Array Value) (e : TypeId) (z : Nat × Nat), e ≠ 41 → W.heap[k]? = some (.cells cs e z) → W'.heap[k]? = some (.cells cs e z) := by
  have hr : W.ownsRow w.heap.size 41 3 cur.v cur.n cur.xs := h.fam.own cur (List.mem_cons_self ..)
  refine ⟨⟨h.bel.grown hg h.bel.size (fun r hq => (hr.lt r hq).1), map_by_row hr h.num hg, map_by_row hr h.mem hg, h.ne, h.nlo, h.mlo, h.fst.kept hg (own_types hr h.fst (by decide)), h.out.kept hg (own_types hr h.out (by decide)), h.fam.head hg hy hm⟩, fun k cs e z he hk => blk_kept hr hg hk he⟩
/-- One state more is made. -/
theorem NuR.growO {x : Sh} (h : NuR w W nb nn mb mn N1 N2 Af p cf met Ao q co x.row [] hs) {A9 : Option Addr} {c9 : Nat} (hg : W.grownBy W' (Value.slice Ao q co).ownBlock) (hy : W'.ownsRow w.heap.size 39 2 (.slice A9 (q + 1) c9) (q + 1) (hs.flatMap Sh.hdr ++ x.hdr)) :
    NuR w W' nb nn mb mn N1 N2 Af p cf met A9 (q + 1) c9 GRow.nil [] (hs ++ [x]) := by
  refine ⟨h.bel.grown hg h.bel.size (fun r hr => (h.out.lt r hr).1), map_by_row h.out h.num hg, map_by_row h.out h.mem hg, h.ne, h.nlo, h.mlo, h.fst.kept hg (own_types h.out h.fst (by decide)), ?_, ?_⟩
  · rw [List.flatMap_append]
    simpa using hy
  · have h1 := (h.fam.turn.kept hg fun z hz => own_types h.out (h.fam.turn.own z hz) (by decide)).cons_nil
    rw [List.nil_append] at h1 ⊢
    rw [List.map_append]
    exact h1
end
/-- The map of numbers tells which class has which number. -/
structure NumIs (N : DataW Unit) (cls : Nat → Nat) (met : List Nat) : Prop where
  map : Maps.IsMap N
  has : ∀ k : Nat, hasI N k = (findI (fun z => decide (cls z = k)) met).isSome
  num : ∀ k i : Nat, findI (fun z => decide (cls z = k)) met = some i → numI N k = (i : Int)
theorem NumIs.put {N : DataW Unit} {cls : Nat → Nat} {met : List Nat} (h : NumIs N cls met) {k z : Nat} (hk : findI (fun z => decide (cls z = k)) met = none) (hz : cls z = k) : NumIs (N.put (.int .i64 (k : Int)) (.lit (.int .i64 (met.length : Nat)))) cls (met ++ [z]) := by
  refine ⟨h.map.put _ _, fun j => ?_, fun j i hj => ?_⟩
  · rw [hasI_put h.map, h.has j, findI_append]
    by_cases e : j = k
    · subst e
      rw [hk]
      simp [findI, hz]
    · have : ¬ (j : Int) = (k : Int) := by omega
      rw [decide_eq_false this, Bool.false_or]
      cases hf : findI (fun z => decide (cls z = j)) met with
      | some i => rfl
      | none => simp [findI, hz, show ¬ k = j from fun e' => e e'.symm]
  · rw [numI_put h.map]
    rw [findI_append] at hj
    by_cases e : j = k
    · subst e
      rw [hk] at hj
      simp [findI, hz] at hj
      rw [if_pos rfl, hj]
    · rw [if_neg (by omega)]
      cases hf : findI (fun z => decide (cls z = j)) met with
      | some q => rw [hf] at hj; injection hj with hj; subst hj; exact h.num j q hf
      | none =>
        rw [hf] at hj
        simp [findI, hz, show ¬ k = j from fun e' => e e'.symm] at hj
theorem own_cell3 {W : World} {b n g c j q : Nat} {l : List Arc3} {a : Arc3} {u : Value} (h : W.ownsRow b 41 3 (.slice (some ⟨g, 0, none⟩) n c) n (arcsC l)) (ha : l[j]? = some a) (hu : (arcC a)[q]? = some u) (hq : q < 3) : W.cell? ⟨g, j * 3 + q, none⟩ = some u := by
  have := h.cells (g := g) rfl (j * 3 + q) u (by unfold arcsC; rw [flat_at arcC 3 (fun _ => rfl) l j q a ha hq]; exact hu)
  rwa [Addr.add_lit, Nat.zero_add] at this
/-- Arcs to classes are the runs of the classes that bytes lead to. -/
theorem led_gOf {d : List St} {L : List Bool} {C : List Int} (hg : Good d) (hl : ∀ (x : Nat) b, L[x]? = some b → (b = true ↔ (auOf d).live x)) (hL : L.length = d.length) {x : Nat} {s : St} (hs : d[x]? = some s) : ledA (ledF L C) s.2 = runs (gOf d (fun x => (C.getD x 0).toNat) x) 256 := by
  have hsm := List.mem_of_getElem? hs
  rw [ledA_runs (ledF L C) s.2 256 (hg.asc s hsm)]
  refine runs_congr 256 fun c _ => ?_
  have hst : (auOf d).step x c = (lookA s.2 c).map Int.toNat := by
    show (d[x]?).bind (fun s => (lookA s.2 c).map Int.toNat) = _
    rw [hs]
    rfl
  unfold gOf Au.stepL
  rw [hst]
  cases hk : lookA s.2 (c : Int) with
  | none => rfl
  | some k =>
    obtain ⟨a, ha, hak, _⟩ := lookA_some hk
    have hkb := hg.to_ s hsm a ha
    rw [hak] at hkb
    have hkn : k.toNat < d.length := by omega
    obtain ⟨b, hb⟩ : ∃ b, L[k.toNat]? = some b := ⟨L[k.toNat]'(by omega), List.getElem?_eq_getElem _⟩
    have hlb := hl _ b hb
    simp only [Option.map_some, Option.bind_some]
    unfold ledF
    rw [List.getD_eq_getElem?_getD, hb]
    cases b with
    | true =>
      rw [if_pos (hlb.1 rfl)]
      simp
    | false =>
      have hn : ¬ (auOf d).live k.toNat := fun h => by have := hlb.2 h; cases this
      simp [hn]
theorem NuR.enter {w W W' : World} {nb nn mb mn : Nat} {N1 N2 : DataW Unit} {Af : Option Addr} {p cf : Nat} {met : List Nat} {Ao : Option Addr} {q co : Nat} {cur y : GRow} {hs : List Sh} (h : NuR w W nb nn mb mn N1 N2 Af p cf met Ao q co cur [] hs) (hb : Below W.heap.size W W') (hy : y.own W' W.heap.size 41 3) : NuR w W' nb nn mb mn N1 N2 Af p cf met Ao q co cur [y] hs := by
  have h1 := h.keep hb
  exact ⟨h1.bel, h1.num, h1.mem, h1.ne, h1.nlo, h1.mlo, h1.fst, h1.out, (h.fam.fresh hb h.bel.size hy).swap⟩
theorem NuR.leave {w W : World} {nb nn mb mn : Nat} {N1 N2 : DataW Unit} {Af : Option Addr} {p cf : Nat} {met : List Nat} {Ao : Option Addr} {q co : Nat} {cur y : GRow} {hs : List Sh} (h : NuR w W nb nn mb mn N1 N2 Af p cf met Ao q co cur [y] hs) : NuR w W nb nn mb mn N1 N2 Af p cf met Ao q co cur [] hs :=
  ⟨h.bel, h.num, h.mem, h.ne, h.nlo, h.mlo, h.fst, h.out, h.fam.swap.tail⟩
theorem numA_snoc (cls : Nat → Nat) (met : List Nat) (A : List Arc3) (a : Arc3) : numA cls met (A ++ [a]) = numA cls met A ++ [(a.1, a.2.1, (numK cls met a.2.2.toNat : Int))] := by
  unfold numA
  rw [List.map_append]
  rfl
theorem next_some {cls rep : Nat → Nat} {met : List Nat} {T : List Arc3} {lo hi : Int} {k q : Nat} (hf : findI (fun z => decide (cls z = k)) met = some q) : addC cls rep met k = met ∧ numA cls met (T ++ [(lo, hi, (k : Int))]) = numA cls met T ++ [(lo, hi, (q : Int))] := by
  refine ⟨addC_again hf, ?_⟩
  rw [numA_snoc]
  simp only [Int.toNat_natCast]
  unfold numK
  rw [hf]
  rfl
theorem next_none {cls rep : Nat → Nat} {met : List Nat} {T : List Arc3} {lo hi : Int} {k : Nat} (hf : findI (fun z => decide (cls z = k)) met = none) (hr : cls (rep k) = k) (hall : ∀ b ∈ T, ∃ i, findI (fun z => decide (cls z = b.2.2.toNat)) met = some i) : addC cls rep met k = met ++ [rep k] ∧ numA cls (met ++ [rep k]) (T ++ [(lo, hi, (k : Int))]) = numA cls met T ++ [(lo, hi, (met.length : Int))] := by
  constructor
  · unfold addC
    rw [hf]
    rfl
  · rw [numA_snoc, numA_more hall]
    simp only [Int.toNat_natCast]
    unfold numK
    rw [findI_append, hf]
    simp [findI, hr]
end Go.Proofs.YtebdffabfimmkaaDoor
/- The reference's grown: one byte more behind arcs. -/
namespace Go.Proofs.YtebdffabfimmkaaDoor
open Go.RowKit

set_option maxRecDepth 100000 in
set_option maxHeartbeats 8000000 in
theorem grown_any (w : World) (base : Nat) (hbase : base ≤ w.heap.size) (A : Option Addr) (n c : Nat) (l : List Arc3) (hown : w.ownsRow base 41 3 (.slice A n c) n (arcsC l)) (hn : n ≤ 1099511627776) (ch tt : Nat) (hlo : ch ≤ 256) (hh : ∀ a ∈ l, 0 ≤ a.2.1 ∧ a.2.1 ≤ 256) :
    Calls Tryd.prog 37 #[.slice A n c, .int .i64 (ch : Int), .int .i64 (tt : Int)] w (JoinPost w base (.slice A n c) (growA l (ch : Int) (tt : Int))) := by
  have hll : l.length = n := by have := hown.1; rw [arcsC_len] at this; omega
  have HO := Lib.hid hown
  have hwr : IntKind.i64.wrap ((ch : Int) - 1) = (ch : Int) - 1 := IntWalk.i64_in _ (by omega)
  by_cases h0 : n = 0
  · subst h0
    have hl0 : l = [] := List.eq_nil_of_length_eq_zero hll
    have HJ : Hid ((growA l (ch : Int) (tt : Int)).length = 0 + 1 ∧ arcsC (growA l (ch : Int) (tt : Int)) = arcsC l ++ [.int .i64 (ch : Int), .int .i64 (ch : Int), .int .i64 (tt : Int)]) := by
      rw [hl0]
      exact ⟨rfl, rfl⟩
    clear hh hl0 hown hll
    go_enter Tryd.func37, Tryd.ntmps37
    go_wp2_with (at_builtin; refine wpList_push w w _ rfl _ _ _ rfl el_arc _ _ _ rfl HO.out rfl (by simp) rfl (by simp [Value.oneCell']) (by unfold maxLen; omega) (by omega) hbase (Below.refl _ _) ?_; intro v9 w9 hown9 _ hg9 hor9; have HO9 := Lib.hid hown9; have HG9 := Lib.hid hg9; have HR9 := Lib.hid hor9; clear hown9 hg9 hor9)
    go_ret
    exact ⟨v9, rfl, by rw [HJ.out.1, HJ.out.2]; exact HO9.out, HG9.out, HR9.out⟩
  obtain ⟨m, b, rfl⟩ : ∃ m b, l = m ++ [b] := ⟨l.dropLast, l.getLast (by intro e; rw [e] at hll; exact h0 hll.symm), (List.dropLast_concat_getLast _).symm⟩
  rw [List.length_append, List.length_singleton] at hll
  have hb := hh b (by simp)
  obtain ⟨k, hk⟩ : ∃ k, m.length = k := ⟨_, rfl⟩
  have hidx : (n : Int) - 1 = (k : Int) := by omega
  obtain ⟨g, rfl, hbg, hgl⟩ := own_head HO.out (by omega)
  have hcell : ∀ j u, (arcC b)[j]? = some u → j < 3 → w.cell? ⟨g, k * 3 + j, none⟩ = some u := fun j u hu hj => by
    have := HO.out.cells (g := g) rfl (k * 3 + j) u (by unfold arcsC; rw [flat_at arcC 3 (fun _ => rfl) (m ++ [b]) k j b (by rw [← hk]; simp) hj]; exact hu)
    rwa [Addr.add_lit, Nat.zero_add] at this
  have f1 := hcell 1 _ rfl (by omega)
  have f2 := hcell 2 _ rfl (by omega)
  have hfr : w.frozen? ⟨g, k * 3 + 1, none⟩ = false := by
    rcases HO.out.2 with ⟨hv, _⟩ | ⟨g', cap, cur, hv, _, hg, _⟩
    · cases hv
    · injection hv with hv _ _
      injection hv with hv
      injection hv with hv _ _
      subst hv
      exact free_at hg _
  have i0 : (0 : Int) ≤ (k : Int) := by omega
  have i1 : (k : Int) < (n : Int) := by omega
  have q0 : decide ((k : Int) ≥ 0) = true := decide_eq_true (by omega)
  have HLAST : (m ++ [b]).getLast? = some b := by simp
  obtain ⟨blo, bhi, bto⟩ := b
  simp only at hb hcell f1 f2 HLAST
  clear hown hh hcell
  by_cases hj : bhi + 1 = (ch : Int) ∧ bto = (tt : Int)
  · have HJ : Hid (growA (m ++ [(blo, bhi, bto)]) (ch : Int) (tt : Int) = m ++ [(blo, (ch : Int), (tt : Int))]) := by
      show _ = _
      unfold growA
      rw [HLAST]
      simp only
      rw [if_pos hj, List.dropLast_concat]
    have q1 : (bto == (tt : Int)) = true := by simpa using hj.2
    have q2 : (bhi == (ch : Int) - 1) = true := by simpa using show bhi = (ch : Int) - 1 by omega
    have HSET : Hid ((w.setCell ⟨g, k * 3 + 1, none⟩ (.int .i64 (ch : Int))).ownsRow base 41 3 (.slice (some ⟨g, 0, none⟩) n c) n (arcsC (m ++ [(blo, (ch : Int), (tt : Int))]))) := by
      have h1 := own_put (j := k * 3 + 1) (u := .int .i64 (ch : Int)) HO.out
      have h2 : (arcsC (m ++ [(blo, bhi, bto)])).set (k * 3 + 1) (.int .i64 (ch : Int)) = arcsC (m ++ [(blo, (ch : Int), (tt : Int))]) := by
        rw [arcsC_app, arcsC_app, List.set_append, if_neg (by rw [arcsC_len]; omega), arcsC_len, hk, Nat.add_sub_cancel_left, ← hj.2]
        rfl
      rw [h2] at h1
      exact h1
    have HLN : Hid ((m ++ [(blo, (ch : Int), (tt : Int))]).length = n) := by show _ = _; rw [List.length_append, List.length_singleton]; omega
    have HGS : Hid (w.grownBy (w.setCell ⟨g, k * 3 + 1, none⟩ (.int .i64 (ch : Int))) (Value.slice (some ⟨g, 0, none⟩) n c).ownBlock) := set_grown _ ⟨g, k * 3 + 1, none⟩ _
    clear hj HLAST hll hk
    go_enter Tryd.func37, Tryd.ntmps37
    go_wp2_with fail
    go_ret
    exact ⟨_, rfl, by rw [HJ.out, HLN.out]; exact HSET.out, HGS.out, .inl rfl⟩
  · have HJ : Hid ((growA (m ++ [(blo, bhi, bto)]) (ch : Int) (tt : Int)).length = n + 1 ∧ arcsC (growA (m ++ [(blo, bhi, bto)]) (ch : Int) (tt : Int)) = arcsC (m ++ [(blo, bhi, bto)]) ++ [.int .i64 (ch : Int), .int .i64 (ch : Int), .int .i64 (tt : Int)]) := by
      have e : growA (m ++ [(blo, bhi, bto)]) (ch : Int) (tt : Int) = m ++ [(blo, bhi, bto)] ++ [((ch : Int), (ch : Int), (tt : Int))] := by
        unfold growA
        rw [HLAST]
        simp only
        rw [if_neg hj]
      rw [e, arcsC_app]
      exact ⟨by rw [List.length_append, List.length_append]; simp only [List.length_singleton]; omega, rfl⟩
    by_cases hj1 : bhi = (ch : Int) - 1
    · have q1 : (bto == (tt : Int)) = false := by simpa using fun e => hj ⟨by omega, e⟩
      have q2 : (bhi == (ch : Int) - 1) = true := by simpa using hj1
      clear hj HLAST hll hk hj1 hfr
      go_enter Tryd.func37, Tryd.ntmps37
      go_wp2_with (at_builtin; refine wpList_push w w _ rfl _ _ _ rfl el_arc _ _ _ rfl HO.out rfl (by simp) rfl (by simp [Value.oneCell']) (by unfold maxLen; omega) (by omega) hbase (Below.refl _ _) ?_; intro v9 w9 hown9 _ hg9 hor9; have HO9 := Lib.hid hown9; have HG9 := Lib.hid hg9; have HR9 := Lib.hid hor9; clear hown9 hg9 hor9)
      go_ret
      exact ⟨v9, rfl, by rw [HJ.out.1, HJ.out.2]; exact HO9.out, HG9.out, HR9.out⟩
    · have q2 : (bhi == (ch : Int) - 1) = false := by simpa using hj1
      clear hj HLAST hll hk hj1 hfr
      go_enter Tryd.func37, Tryd.ntmps37
      go_wp2_with (at_builtin; refine wpList_push w w _ rfl _ _ _ rfl el_arc _ _ _ rfl HO.out rfl (by simp) rfl (by simp [Value.oneCell']) (by unfold maxLen; omega) (by omega) hbase (Below.refl _ _) ?_; intro v9 w9 hown9 _ hg9 hor9; have HO9 := Lib.hid hown9; have HG9 := Lib.hid hg9; have HR9 := Lib.hid hor9; clear hown9 hg9 hor9)
      go_ret
      exact ⟨v9, rfl, by rw [HJ.out.1, HJ.out.2]; exact HO9.out, HG9.out, HR9.out⟩
end Go.Proofs.YtebdffabfimmkaaDoor
/- The reference's automata in the making: states that are made, and the one under way. -/
namespace Go.Proofs.YtebdffabfimmkaaDoor
open Go.RowKit Go.Maps

structure OutR (w W : World) (Ao : Option Addr) (q co : Nat) (hs : List Sh) : Prop where
  bel : Below w.heap.size w W
  out : W.ownsRow w.heap.size 39 2 (.slice Ao q co) q (hs.flatMap Sh.hdr)
  fam : GFam W w.heap.size 41 3 (hs.map Sh.row)
structure GrR (w W : World) (sp : Nat) (fin : Bool) (Ao : Option Addr) (q co : Nat) (Ac : Option Addr) (pc cc : Nat) (arcs : List Arc3) (hs : List Sh) : Prop where
  bel : Below w.heap.size w W
  out : W.ownsRow w.heap.size 39 2 (.slice Ao q co) q (hs.flatMap Sh.hdr)
  fam : GFam W w.heap.size 41 3 (⟨.slice Ac pc cc, pc, arcsC arcs⟩ :: hs.map Sh.row)
  blk : W.heap[sp]? = some (.cells #[.bool fin, .slice Ac pc cc] 39 (0, 0))
  lo : w.heap.size ≤ sp
  ne : (Value.slice Ao q co).ownBlock = none ∨ (Value.slice Ao q co).ownBlock ≠ some sp
section
variable {w W W' : World} {sp : Nat} {fin : Bool} {Ao : Option Addr} {q co : Nat} {Ac : Option Addr} {pc cc : Nat} {arcs new : List Arc3} {hs : List Sh}
theorem OutR.keep (h : OutR w W Ao q co hs) (hb : Below W.heap.size W W') : OutR w W' Ao q co hs := ⟨bcall h.bel hb, own_kept h.out hb, h.fam.below hb⟩
theorem OutR.start (w : World) : OutR w w none 0 0 [] := ⟨brefl w, ⟨rfl, .inl ⟨rfl, rfl⟩⟩, GFam.nil _ _ _ _⟩
theorem OutR.sts (h : OutR w W Ao q co hs) (hq : hs.length = q) : OwnSts W w.heap.size (.slice Ao q co) hs := ⟨by rw [hq]; exact h.out, h.fam⟩
/-- A row of another type that grows. -/
theorem OutR.other {b e s n : Nat} {v : Value} {xs : List Value} (h : OutR w W Ao q co hs) (ho : W.ownsRow b e s v n xs) (he1 : e ≠ 39) (he2 : e ≠ 41) (hb : w.heap.size ≤ b) (hg : W.grownBy W' v.ownBlock) : OutR w W' Ao q co hs :=
  ⟨h.bel.grown hg h.bel.size (fun r hr => Nat.le_trans hb (ho.lt r hr).1), h.out.kept hg (own_types ho h.out he1), h.fam.kept hg fun x hx => own_types ho (h.fam.own x hx) he2⟩
/-- A new state. -/
theorem OutR.open_ (h : OutR w W Ao q co hs) (fin : Bool) : GrR w (W.alloc (.cells #[.bool fin, .slice none 0 0] 39)) W.heap.size fin Ao q co none 0 0 [] hs := by
  have hb := bnew (brefl W) (.cells #[.bool fin, .slice none 0 0] 39)
  refine ⟨bcall h.bel hb, own_kept h.out hb, (h.fam.below hb).cons_nil, heap_alloc_new W _, h.bel.size, ?_⟩
  cases hv : (Value.slice Ao q co).ownBlock with
  | none => exact .inl rfl
  | some g =>
    refine .inr fun e => ?_
    injection e with e
    have := (h.out.lt g hv).2
    omega
theorem GrR.keep (h : GrR w W sp fin Ao q co Ac pc cc arcs hs) (hb : Below W.heap.size W W') : GrR w W' sp fin Ao q co Ac pc cc arcs hs :=
  ⟨bcall h.bel hb, own_kept h.out hb, h.fam.below hb, (hb.block sp (Array.getElem?_eq_some_iff.1 h.blk).1).trans h.blk, h.lo, h.ne⟩
theorem GrR.cells (h : GrR w W sp fin Ao q co Ac pc cc arcs hs) : W.cell? ⟨sp, 0, none⟩ = some (.bool fin) ∧ W.cell? ⟨sp, 1, none⟩ = some (.slice Ac pc cc) ∧ W.frozen? ⟨sp, 1, none⟩ = false ∧ sp < W.heap.size :=
  ⟨cell_of_row _ sp 0 _ _ (0, 0) h.blk, cell_of_row _ sp 1 _ _ (0, 0) h.blk, free_at h.blk _, (Array.getElem?_eq_some_iff.1 h.blk).1⟩
theorem GrR.row (h : GrR w W sp fin Ao q co Ac pc cc arcs hs) : W.ownsRow w.heap.size 41 3 (.slice Ac pc cc) pc (arcsC arcs) := h.fam.own ⟨.slice Ac pc cc, pc, arcsC arcs⟩ (List.mem_cons_self ..)
theorem GrR.len (h : GrR w W sp fin Ao q co Ac pc cc arcs hs) : arcs.length = pc := by
  have := h.row.1
  rw [arcsC_len] at this
  omega
theorem GrR.other {b e s n : Nat} {v : Value} {xs : List Value} (h : GrR w W sp fin Ao q co Ac pc cc arcs hs) (ho : W.ownsRow b e s v n xs) (he1 : e ≠ 39) (he2 : e ≠ 41) (hb : w.heap.size ≤ b) (hg : W.grownBy W' v.ownBlock) : GrR w W' sp fin Ao q co Ac pc cc arcs hs :=
  ⟨h.bel.grown hg h.bel.size (fun r hr => Nat.le_trans hb (ho.lt r hr).1), h.out.kept hg (own_types ho h.out he1), h.fam.kept hg fun x hx => own_types ho (h.fam.own x hx) he2, blk_kept ho hg h.blk (fun e' => he1 e'.symm), h.lo, h.ne⟩
/-- The arcs have grown, and are put back. -/
theorem GrR.grow {A2 : Option Addr} {p2 c2 : Nat} (h : GrR w W sp fin Ao q co Ac pc cc arcs hs) (hown : W'.ownsRow w.heap.size 41 3 (.slice A2 p2 c2) p2 (arcsC new)) (hg : W.grownBy W' (Value.slice Ac pc cc).ownBlock) (hor : (Value.slice A2 p2 c2).ownBlock = (Value.slice Ac pc cc).ownBlock ∨ ∃ g, (Value.slice A2 p2 c2).ownBlock = some g ∧ W.heap.size ≤ g) :
    (W'.cell? ⟨sp, 1, none⟩ = some (.slice Ac pc cc) ∧ W'.frozen? ⟨sp, 1, none⟩ = false ∧ sp < W'.heap.size) ∧ GrR w (W'.setCell ⟨sp, 1, none⟩ (.slice A2 p2 c2)) sp fin Ao q co A2 p2 c2 new hs ∧
    ∀ {b e s n : Nat} {v : Value} {xs : List Value}, e ≠ 39 → e ≠ 41 → W.ownsRow b e s v n xs → (W'.setCell ⟨sp, 1, none⟩ (.slice A2 p2 c2)).ownsRow b e s v n xs := by
  have hr := h.row
  have hblk : W'.heap[sp]? = some (.cells #[.bool fin, .slice Ac pc cc] 39 (0, 0)) := blk_kept hr hg h.blk (by decide)
  have hbel : Below w.heap.size w W' := h.bel.grown hg h.bel.size (fun r hq => (hr.lt r hq).1)
  have hout := h.out.kept hg (own_types hr h.out (by decide))
  have hfam : GFam W' w.heap.size 41 3 (⟨.slice A2 p2 c2, p2, arcsC new⟩ :: hs.map Sh.row) := h.fam.head hg hown hor
  refine ⟨⟨cell_of_row _ sp 1 _ _ (0, 0) hblk, free_at hblk _, (Array.getElem?_eq_some_iff.1 hblk).1⟩, ⟨below_set hbel h.lo (Nat.le_refl _), hout.kept (set_grown _ _ _) h.ne, hfam.kept (set_grown _ _ _) fun x hx => row_not_cells (hfam.own x hx) hblk (by decide), ?_, h.lo, h.ne⟩, fun h1 h2 h3 => own_other (h3.kept hg (own_types hr h3 (fun e => h2 e.symm))) hblk (fun e => h1 e.symm)⟩
  have h4 := blk_set (j := 1) hblk (.slice A2 p2 c2)
  exact h4
/-- The state is put behind the others. -/
theorem GrR.close {A9 : Option Addr} {c9 : Nat} (h : GrR w W sp fin Ao q co Ac pc cc arcs hs) (hg : W.grownBy W' (Value.slice Ao q co).ownBlock) (hy : W'.ownsRow w.heap.size 39 2 (.slice A9 (q + 1) c9) (q + 1) (hs.flatMap Sh.hdr ++ [.bool fin, .slice Ac pc cc])) :
    OutR w W' A9 (q + 1) c9 (hs ++ [⟨(fin, arcs), Ac, cc⟩]) ∧ ∀ {b e s n : Nat} {v : Value} {xs : List Value}, e ≠ 39 → W.ownsRow b e s v n xs → W'.ownsRow b e s v n xs := by
  have hl := h.len
  have hrow : Sh.row ⟨(fin, arcs), Ac, cc⟩ = ⟨.slice Ac pc cc, pc, arcsC arcs⟩ := by
    unfold Sh.row
    simp only [hl]
  have hhdr : Sh.hdr ⟨(fin, arcs), Ac, cc⟩ = [.bool fin, .slice Ac pc cc] := by
    unfold Sh.hdr
    simp only [hl]
  refine ⟨⟨h.bel.grown hg h.bel.size (fun r hr => (h.out.lt r hr).1), ?_, ?_⟩, fun he ho => ho.kept hg (own_types h.out ho (fun e => he e.symm))⟩
  · rw [List.flatMap_append, List.flatMap_cons, List.flatMap_nil, List.append_nil, hhdr]
    exact hy
  · have h1 := (h.fam.kept hg fun z hz => own_types h.out (h.fam.own z hz) (by decide)).turn
    rw [List.map_append, List.map_cons, List.map_nil, hrow]
    exact h1
end
theorem growA_hi {l : List Arc3} {c k : Nat} (hc : c ≤ 256) (h : ∀ a ∈ l, 0 ≤ a.2.1 ∧ a.2.1 ≤ 256) : ∀ a ∈ growA l (c : Int) (k : Int), 0 ≤ a.2.1 ∧ a.2.1 ≤ 256 := by
  intro a ha
  unfold growA at ha
  split at ha
  · rename_i b hb
    split at ha
    · rcases List.mem_append.1 ha with ha | ha
      · exact h a (List.dropLast_subset _ ha)
      · rw [List.mem_singleton.1 ha]
        exact ⟨by show (0 : Int) ≤ (c : Int); omega, by show (c : Int) ≤ 256; omega⟩
    · rcases List.mem_append.1 ha with ha | ha
      · exact h a ha
      · rw [List.mem_singleton.1 ha]
        exact ⟨by show (0 : Int) ≤ (c : Int); omega, by show (c : Int) ≤ 256; omega⟩
  · rw [List.mem_singleton.1 ha]
    exact ⟨by show (0 : Int) ≤ (c : Int); omega, by show (c : Int) ≤ 256; omega⟩
theorem growA_len (l : List Arc3) (c k : Int) : (growA l c k).length ≤ l.length + 1 := by
  unfold growA
  split
  · split
    · rw [List.length_append, List.length_dropLast, List.length_singleton]
      omega
    · rw [List.length_append, List.length_singleton]
      omega
  · rw [List.length_singleton]
    omega
end Go.Proofs.YtebdffabfimmkaaDoor
