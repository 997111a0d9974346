/- Arguments of entries, of texts. -/
import Derived.Test.YtheickndnniomaaDoorSame
import Derived.Test.YtheickndnniomaaDoorDeep
namespace Go.Proofs.YtheickndnniomaaDoor
open Go.RowKit Go.Maps

abbrev tEnt : Ty := .cons .str (.cons (.int .i64) .nil)
theorem ty_ents : tyOf Tryd.prog 8 22 = some (.slice tEnt 24) := by kernel_rfl
theorem ty_texts : tyOf Tryd.prog 8 40 = some (.slice .str 16) := by kernel_rfl
def entOf (d : tEnt.den) : Ent := ((show ByteArray from d.1).data.toList, (show Int from d.2.1))
def entL (n : Nat) (x : Nat → tEnt.den) : List Ent := (List.range n).map fun i => entOf (x i)
structure EntsIn (w : World) (A : Option Addr) (n c : Nat) (l : List Ent) : Prop where
  ents : Ents w w.heap.size A n c l
  fits : ∀ e ∈ l, fits64 e.2
  lens : ∀ e ∈ l, e.1.length ≤ 140737488355328
  cmx : c ≤ maxLen
theorem ents_in {w : World} {A : Option Addr} {n c : Nat} {x : Nat → tEnt.den} {cs : List Value} (h : Reads w w.heap.size (.slice tEnt 24) (⟨A, n, c⟩, x) cs) : EntsIn w A n c (entL n x) := by
  have hs := h.sl (e := tEnt) (fun d => rfl)
  have hb : n * 24 ≤ reachBytes := h.2.1.2.2.1
  have hel : ∀ i, i < n → fits64 (entOf (x i)).2 ∧ (entOf (x i)).1.length ≤ 140737488355328 := by
    intro i hi
    obtain ⟨cl, c1, c2, _, _, ⟨s, hs1, _, hs2, hs3⟩, c3, c4, _, _, ⟨z, hz, _, wz⟩, _⟩ := h.elem hi
    constructor
    · have := bounds_i64 wz
      show fits64 ((x i).2.1 : Int)
      have e : ((x i).2.1 : Int) = z := hz
      rw [e]
      exact this
    · have e1 : (entOf (x i)).1 = s.data.toList := congrArg (fun q : ByteArray => q.data.toList) hs1
      rw [e1]
      have e2 : s.data.toList.length = s.size := rfl
      rw [e2]
      unfold reachBytes at hs3
      omega
  refine ⟨⟨?_, h.2.1.1, by unfold reachBytes at hb; omega⟩, fun e he => ?_, fun e he => ?_, h.2.1.2.1⟩
  · have e : entsC (entL n x) = (List.range n).flatMap fun i => Ty.cells tEnt (x i) := by
      unfold entsC entL
      rw [List.flatMap_map]
      rfl
    rw [e]
    exact hs
  · obtain ⟨i, hi, rfl⟩ := List.mem_map.1 he
    exact (hel i (List.mem_range.1 hi)).1
  · obtain ⟨i, hi, rfl⟩ := List.mem_map.1 he
    exact (hel i (List.mem_range.1 hi)).2
/-- An argument of texts. -/
structure TextsIn (w : World) (A : Option Addr) (n c : Nat) (x : Nat → ByteArray) : Prop where
  nc : n ≤ c
  cm : c ≤ maxLen
  rb : n * 16 ≤ reachBytes
  sl : Sl w w.heap.size 1 A n ((List.range n).map fun i => .string (x i))
  sz : ∀ i, i < n → (x i).size ≤ reachBytes
theorem texts_in {w : World} {A : Option Addr} {n c : Nat} {x : Nat → Ty.str.den} {cs : List Value} (h : Reads w w.heap.size (.slice .str 16) (⟨A, n, c⟩, x) cs) : TextsIn w A n c x := by
  have hs := h.sl (e := .str) (fun d => rfl)
  refine ⟨h.2.1.1, h.2.1.2.1, h.2.1.2.2.1, ?_, fun i hi => ?_⟩
  · have e : ((List.range n).flatMap fun i => Ty.cells .str (x i)) = (List.range n).map fun i => .string (x i) := by
      rw [List.map_eq_flatMap]
      rfl
    rw [← e]
    exact hs
  · obtain ⟨cl, z, hz, _, h1, h2⟩ := h.elem hi
    have hz' : (x i : ByteArray) = z := hz
    rw [hz']
    exact h2
end Go.Proofs.YtheickndnniomaaDoor
