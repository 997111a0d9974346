/- Rows of the call's own, of one type, no two in one block. -/
import Derived.Test.YtebdffabfimmkaaDoorSmap
import Derived.Test.YtebdffabfimmkaaDoorPut
namespace Go.Proofs.YtebdffabfimmkaaDoor
open Go.RowKit

structure GRow where
  v : Value
  n : Nat
  xs : List Value
def GRow.nil : GRow := ⟨.slice none 0 0, 0, []⟩
def GRow.own (W : World) (base e s : Nat) (x : GRow) : Prop := W.ownsRow base e s x.v x.n x.xs
theorem GRow.own_nil (W : World) (base e s : Nat) : GRow.nil.own W base e s := ⟨by simp [GRow.nil], .inl ⟨rfl, rfl⟩⟩
/-- Two rows lie apart. -/
def GAp (x y : GRow) : Prop := x.v.ownBlock = none ∨ y.v.ownBlock = none ∨ x.v.ownBlock ≠ y.v.ownBlock
theorem GAp.symm {x y : GRow} (h : GAp x y) : GAp y x := by
  rcases h with h | h | h
  · exact .inr (.inl h)
  · exact .inl h
  · exact .inr (.inr fun e => h e.symm)
structure GFam (W : World) (base e s : Nat) (F : List GRow) : Prop where
  own : ∀ x ∈ F, x.own W base e s
  ap : F.Pairwise GAp
section
variable {W W2 : World} {base e s : Nat} {F a b : List GRow} {x y : GRow}
theorem GFam.below (h : GFam W base e s F) (hb : Below W.heap.size W W2) : GFam W2 base e s F := ⟨fun x hx => own_kept (h.own x hx) hb, h.ap⟩
theorem GAp.kept {x z : GRow} (h : GAp z x) : z.v.ownBlock = none ∨ z.v.ownBlock ≠ x.v.ownBlock := by
  rcases h with h | h | h
  · exact .inl h
  · cases hz : z.v.ownBlock with
    | none => exact .inl rfl
    | some g => exact .inr (by rw [h]; simp)
  · exact .inr h
theorem GFam.grow (h : GFam W base e s (a ++ x :: b)) (hg : W.grownBy W2 x.v.ownBlock) (hy : y.own W2 base e s) (hm : y.v.ownBlock = x.v.ownBlock ∨ ∃ g, y.v.ownBlock = some g ∧ W.heap.size ≤ g) : GFam W2 base e s (a ++ y :: b) := by
  obtain ⟨p1, p2, p3⟩ := List.pairwise_append.1 h.ap
  obtain ⟨p4, p5⟩ := List.pairwise_cons.1 p2
  have hzx : ∀ z, z ∈ a ∨ z ∈ b → GAp z x := fun z hz => by
    rcases hz with hz | hz
    · exact p3 z hz x (List.mem_cons_self ..)
    · exact (p4 z hz).symm
  have hown : ∀ z, z ∈ a ∨ z ∈ b → z.own W base e s := fun z hz => h.own z (by
    rcases hz with hz | hz
    · exact List.mem_append_left _ hz
    · exact List.mem_append_right _ (List.mem_cons_of_mem _ hz))
  have hzy : ∀ z, z ∈ a ∨ z ∈ b → GAp z y := fun z hz => by
    rcases hm with hm | ⟨g, hm, hgs⟩
    · have := hzx z hz
      unfold GAp at this ⊢
      rw [hm]
      exact this
    · cases hzb : z.v.ownBlock with
      | none => exact .inl hzb
      | some k =>
        refine .inr (.inr ?_)
        rw [hzb, hm]
        intro e
        injection e with e
        have := (World.ownsRow.lt (hown z hz) k hzb).2
        omega
  refine ⟨fun z hz => ?_, List.pairwise_append.2 ⟨p1, List.pairwise_cons.2 ⟨fun z hz => (hzy z (.inr hz)).symm, p5⟩, fun z hz u hu => ?_⟩⟩
  · rcases List.mem_append.1 hz with hz | hz
    · exact World.ownsRow.kept (hown z (.inl hz)) hg (hzx z (.inl hz)).kept
    · rcases List.mem_cons.1 hz with rfl | hz
      · exact hy
      · exact World.ownsRow.kept (hown z (.inr hz)) hg (hzx z (.inr hz)).kept
  · rcases List.mem_cons.1 hu with rfl | hu
    · exact hzy z (.inl hz)
    · exact p3 z hz u (List.mem_cons_of_mem _ hu)
/-- The row ahead grows. -/
theorem GFam.head (h : GFam W base e s (x :: F)) (hg : W.grownBy W2 x.v.ownBlock) (hy : y.own W2 base e s) (hm : y.v.ownBlock = x.v.ownBlock ∨ ∃ g, y.v.ownBlock = some g ∧ W.heap.size ≤ g) : GFam W2 base e s (y :: F) := GFam.grow (a := []) h hg hy hm
/-- What grows another row, or changes another block, keeps them. -/
theorem GFam.kept {row : Option Nat} (h : GFam W base e s F) (hg : W.grownBy W2 row) (hn : ∀ x ∈ F, x.v.ownBlock = none ∨ x.v.ownBlock ≠ row) : GFam W2 base e s F := ⟨fun x hx => World.ownsRow.kept (h.own x hx) hg (hn x hx), h.ap⟩
theorem GFam.nil (W : World) (base e s : Nat) : GFam W base e s [] := ⟨fun _ hx => absurd hx List.not_mem_nil, List.Pairwise.nil⟩
/-- A row that is nothing yet. -/
theorem GFam.cons_nil (h : GFam W base e s F) : GFam W base e s (GRow.nil :: F) := ⟨fun x hx => by
  rcases List.mem_cons.1 hx with rfl | hx
  · exact GRow.own_nil _ _ _ _
  · exact h.own x hx, List.pairwise_cons.2 ⟨fun z _ => .inl rfl, h.ap⟩⟩
/-- The row ahead is put behind the others. -/
theorem GFam.turn (h : GFam W base e s (x :: F)) : GFam W base e s (F ++ [x]) := by
  obtain ⟨h1, h2⟩ := List.pairwise_cons.1 h.ap
  refine ⟨fun z hz => h.own z ?_, List.pairwise_append.2 ⟨h2, List.pairwise_singleton _ _, fun z hz u hu => ?_⟩⟩
  · rcases List.mem_append.1 hz with hz | hz
    · exact List.mem_cons_of_mem _ hz
    · rw [List.mem_singleton.1 hz]; exact List.mem_cons_self ..
  · rw [List.mem_singleton.1 hu]
    exact (h1 z hz).symm
theorem GFam.tail (h : GFam W base e s (x :: F)) : GFam W base e s F := ⟨fun z hz => h.own z (List.mem_cons_of_mem _ hz), (List.pairwise_cons.1 h.ap).2⟩
end
theorem own_types' {w : World} {b1 b2 e1 e2 s1 s2 n1 n2 : Nat} {v1 v2 : Value} {x1 x2 : List Value} (h1 : w.ownsRow b1 e1 s1 v1 n1 x1) (h2 : w.ownsRow b2 e2 s2 v2 n2 x2) (he : e2 ≠ e1) : v2.ownBlock = none ∨ v2.ownBlock ≠ v1.ownBlock := own_types h1 h2 fun e => he e.symm
/-- A row that a call has made. -/
theorem GFam.fresh {W W2 : World} {base e s : Nat} {F : List GRow} {y : GRow} (h : GFam W base e s F) (hb : Below W.heap.size W W2) (hbase : base ≤ W.heap.size) (hy : y.own W2 W.heap.size e s) : GFam W2 base e s (y :: F) := by
  refine ⟨fun z hz => ?_, List.pairwise_cons.2 ⟨fun z hz => ?_, h.ap⟩⟩
  · rcases List.mem_cons.1 hz with rfl | hz
    · exact own_lower hy hbase
    · exact own_kept (h.own z hz) hb
  · have := own_apart (h.own z hz) hy (Nat.le_refl _)
    rcases this with h1 | h1
    · exact .inl h1
    · exact .inr (.inr h1)
/-- Two rows change places. -/
theorem GFam.swap {W : World} {base e s : Nat} {F : List GRow} {x y : GRow} (h : GFam W base e s (x :: y :: F)) : GFam W base e s (y :: x :: F) := by
  obtain ⟨h1, h2⟩ := List.pairwise_cons.1 h.ap
  obtain ⟨h3, h4⟩ := List.pairwise_cons.1 h2
  refine ⟨fun z hz => h.own z (by simp only [List.mem_cons] at hz ⊢; rcases hz with h | h | h <;> simp [h]), List.pairwise_cons.2 ⟨fun z hz => ?_, List.pairwise_cons.2 ⟨fun z hz => h1 z (List.mem_cons_of_mem _ hz), h4⟩⟩⟩
  rcases List.mem_cons.1 hz with rfl | hz
  · exact (h1 y (List.mem_cons_self ..)).symm
  · exact h3 z hz
/-- A block of a map is no block of cells. -/
theorem map_not_cells {H : Type} {W : World} {kb m k t : Nat} {f : Nat × Nat} {cs : Array Value} {kt : TypeId} {R : Value → Option (DataW H × List MemPlace)} {N : DataW H} (hm : W.ownsMap Tryd.prog kt R kb m N) (hk : W.heap[k]? = some (.cells cs t f)) : k ≠ kb := by
  intro e
  subst e
  obtain ⟨es, clock, hb, _⟩ := hm
  rw [hk] at hb
  cases hb
theorem row_not_map' {H : Type} {W : World} {b e s n kb m : Nat} {x : Value} {xs : List Value} {kt : TypeId} {R : Value → Option (DataW H × List MemPlace)} {N : DataW H} (h : W.ownsRow b e s x n xs) (hm : W.ownsMap Tryd.prog kt R kb m N) : x.ownBlock = none ∨ x.ownBlock ≠ some kb := by
  rcases h.2 with ⟨rfl, _⟩ | ⟨g, cap, cur, rfl, _, hg, _⟩
  · exact .inl rfl
  · refine .inr fun e => ?_
    simp only [Value.ownBlock, Option.some.injEq] at e
    exact map_not_cells hm hg e
end Go.Proofs.YtebdffabfimmkaaDoor
