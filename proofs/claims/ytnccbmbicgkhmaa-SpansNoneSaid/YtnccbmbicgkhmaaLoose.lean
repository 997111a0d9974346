/- Loose states in memory. -/
import Derived.Test.YtnccbmbicgkhmaaDeep
import Derived.Test.YtnccbmbicgkhmaaDup
import Derived.Test.YtnccbmbicgkhmaaProg
namespace Go.Proofs.Ytnccbmbicgkhmaa
open Go.RowKit

abbrev tArc : Ty := .cons (.int .i64) (.cons (.int .i64) (.cons (.int .i64) .nil))
abbrev tLoose : Ty := .cons .bool (.cons (.slice tArc 24) (.cons (.slice (.int .i64) 8) .nil))
theorem ty_loose : tyOf Try.prog 8 35 = some (.slice tLoose 56) := by kernel_rfl
def Lo : Type := tLoose.den
def Lo.fin (d : Lo) : Bool := d.1
def Lo.ar (d : Lo) : SlH := d.2.1.1
def Lo.fr (d : Lo) : SlH := d.2.2.1.1
def Lo.arc (d : Lo) (q : Nat) : List Value := tArc.cells (d.2.1.2 q)
def Lo.arcs (d : Lo) : List Value := (List.range d.ar.n).flatMap d.arc
def Lo.frees (d : Lo) : List Value := (List.range d.fr.n).flatMap fun q => [.int .i64 (d.2.2.1.2 q)]
def Lo.hdr (d : Lo) : List Value := [.bool d.fin, .slice d.ar.A d.ar.n d.ar.c, .slice d.fr.A d.fr.n d.fr.c]
/-- An argument of loose states. -/
structure LooseIn (w : World) (A : Option Addr) (n c : Nat) (x : Nat → Lo) : Prop where
  nc : n ≤ c
  cm : c ≤ maxLen
  rb : n * 56 ≤ reachBytes
  sl : Sl w w.heap.size 3 A n ((List.range n).flatMap fun i => (x i).hdr)
  ar : ∀ i, i < n → Sl w w.heap.size 3 (x i).ar.A (x i).ar.n (x i).arcs ∧ (x i).ar.ok 24
  fr : ∀ i, i < n → Sl w w.heap.size 1 (x i).fr.A (x i).fr.n (x i).frees ∧ (x i).fr.ok 8
theorem loose_in {w : World} {A : Option Addr} {n c : Nat} {x : Nat → tLoose.den} {cs : List Value} (h : Reads w w.heap.size (.slice tLoose 56) (⟨A, n, c⟩, x) cs) : LooseIn w A n c x := by
  have hs := h.sl (e := tLoose) (fun d => rfl)
  refine ⟨h.2.1.1, h.2.1.2.1, h.2.1.2.2.1, hs, fun i hi => ?_, fun i hi => ?_⟩
  · obtain ⟨cl, _, c2, _, _, _, c3, c4, _, _, hr, _⟩ := h.elem hi
    exact ⟨hr.sl (e := tArc) (fun d => rfl), hr.2.1⟩
  · obtain ⟨cl, _, c2, _, _, _, c3, c4, _, _, hr, c5, c6, _, _, hr2, _⟩ := h.elem hi
    exact ⟨hr2.sl (e := .int .i64) (fun d => rfl), hr2.2.1⟩
theorem el_loose : Elem Try.prog 35 40 3 56 := Elem.mk_ Try.underlying35 (z := .agg #[.bool false, .slice none 0 0, .slice none 0 0]) (by kernel_rfl) rfl (by omega)
theorem el_arc : Elem Try.prog 37 42 3 24 := Elem.mk_ Try.underlying37 (z := .agg #[.int .i64 0, .int .i64 0, .int .i64 0]) (by kernel_rfl) rfl (by omega)
theorem el_int : Elem Try.prog 38 3 1 8 := Elem.mk_ Try.underlying38 (z := .int .i64 0) (by kernel_rfl) rfl (by omega)
theorem arcs_one (d : Lo) : ∀ u ∈ d.arcs, u.oneCell' = true := by
  intro u hu
  obtain ⟨q, _, h⟩ := List.mem_flatMap.1 hu
  simp only [Lo.arc, Ty.cells, List.mem_append, List.mem_singleton, List.not_mem_nil, or_false] at h
  rcases h with h | h | h <;> rw [h] <;> rfl
theorem frees_one (d : Lo) : ∀ u ∈ d.frees, u.oneCell' = true := by
  intro u hu
  obtain ⟨q, _, h⟩ := List.mem_flatMap.1 hu
  rw [List.mem_singleton] at h
  rw [h]; rfl

/-- A copied state. -/
structure Cpy where
  d : Lo
  A : Option Addr
  c : Nat
  F : Option Addr
  e : Nat
def Cpy.hdr (y : Cpy) : List Value := [.bool y.d.fin, .slice y.A y.d.ar.n y.c, .slice y.F y.d.fr.n y.e]
structure CopyAt (w : World) (base : Nat) (v : Value) (ys : List Cpy) : Prop where
  own : w.ownsRow base 40 3 v ys.length (ys.flatMap Cpy.hdr)
  ar : ∀ y ∈ ys, Cp w 42 3 y.A y.d.ar.n y.c y.d.arcs ∧ y.d.ar.n ≤ y.c
  fr : ∀ y ∈ ys, Cp w 3 1 y.F y.d.fr.n y.e y.d.frees ∧ y.d.fr.n ≤ y.e
theorem CopyAt.below {w w' : World} {base : Nat} {v : Value} {ys : List Cpy} (h : CopyAt w base v ys) (hb : Below w.heap.size w w') : CopyAt w' base v ys :=
  ⟨own_kept h.own hb, fun y hy => ⟨(h.ar y hy).1.below hb, (h.ar y hy).2⟩, fun y hy => ⟨(h.fr y hy).1.below hb, (h.fr y hy).2⟩⟩
theorem CopyAt.push {w w' : World} {base : Nat} {v v' : Value} {ys : List Cpy} (h : CopyAt w base v ys) (y : Cpy) (ha : Cp w 42 3 y.A y.d.ar.n y.c y.d.arcs ∧ y.d.ar.n ≤ y.c) (hf : Cp w 3 1 y.F y.d.fr.n y.e y.d.frees ∧ y.d.fr.n ≤ y.e)
    (ho : w'.ownsRow base 40 3 v' (ys.length + 1) (ys.flatMap Cpy.hdr ++ y.hdr)) (hg : w.grownBy w' v.ownBlock) : CopyAt w' base v' (ys ++ [y]) := by
  refine ⟨by rw [List.length_append, List.flatMap_append]; simpa using ho, fun z hz => ?_, fun z hz => ?_⟩
  · rcases List.mem_append.1 hz with hz | hz
    · exact ⟨(h.ar z hz).1.grown h.own hg (by decide), (h.ar z hz).2⟩
    · rw [List.mem_singleton] at hz
      subst hz
      exact ⟨ha.1.grown h.own hg (by decide), ha.2⟩
  · rcases List.mem_append.1 hz with hz | hz
    · exact ⟨(h.fr z hz).1.grown h.own hg (by decide), (h.fr z hz).2⟩
    · rw [List.mem_singleton] at hz
      subst hz
      exact ⟨hf.1.grown h.own hg (by decide), hf.2⟩
end Go.Proofs.Ytnccbmbicgkhmaa
