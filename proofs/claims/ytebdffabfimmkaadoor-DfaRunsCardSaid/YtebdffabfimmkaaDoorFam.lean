/- Rows of numbers of the call's own, no two in one block. -/
import Derived.Test.YtebdffabfimmkaaDoorMake
namespace Go.Proofs.YtebdffabfimmkaaDoor
open Go.RowKit

structure Rw where
  A : Option Addr
  c : Nat
  l : List Int
def Rw.val (x : Rw) : Value := .slice x.A x.l.length x.c
def Rw.own (W : World) (base : Nat) (x : Rw) : Prop := W.ownsRow base 3 1 x.val x.l.length (x.l.map (.int .i64))
/-- Two rows lie apart. -/
def Ap (x y : Rw) : Prop := x.val.ownBlock = none ∨ y.val.ownBlock = none ∨ x.val.ownBlock ≠ y.val.ownBlock
theorem Ap.symm {x y : Rw} (h : Ap x y) : Ap y x := by
  rcases h with h | h | h
  · exact .inr (.inl h)
  · exact .inl h
  · exact .inr (.inr fun e => h e.symm)
structure Fam (W : World) (base : Nat) (F : List Rw) : Prop where
  own : ∀ x ∈ F, x.own W base
  ap : F.Pairwise Ap
theorem Fam.below {W W' : World} {base : Nat} {F : List Rw} (h : Fam W base F) (hb : Below W.heap.size W W') : Fam W' base F := ⟨fun x hx => own_kept (h.own x hx) hb, h.ap⟩
theorem Ap.kept {x z : Rw} (h : Ap z x) : z.val.ownBlock = none ∨ z.val.ownBlock ≠ x.val.ownBlock := by
  rcases h with h | h | h
  · exact .inl h
  · cases hz : z.val.ownBlock with
    | none => exact .inl rfl
    | some g => exact .inr (by rw [h]; simp)
  · exact .inr h
theorem Fam.grow {W W2 : World} {base : Nat} {a b : List Rw} {x y : Rw} (h : Fam W base (a ++ x :: b)) (hg : W.grownBy W2 x.val.ownBlock) (hy : y.own W2 base) (hm : y.val.ownBlock = x.val.ownBlock ∨ ∃ g, y.val.ownBlock = some g ∧ W.heap.size ≤ g) : Fam W2 base (a ++ y :: b) := by
  obtain ⟨p1, p2, p3⟩ := List.pairwise_append.1 h.ap
  obtain ⟨p4, p5⟩ := List.pairwise_cons.1 p2
  have hzx : ∀ z, z ∈ a ∨ z ∈ b → Ap z x := fun z hz => by
    rcases hz with hz | hz
    · exact p3 z hz x (List.mem_cons_self ..)
    · exact (p4 z hz).symm
  have hzy : ∀ z, z ∈ a ∨ z ∈ b → Ap z y := fun z hz => by
    have hown : z.own W base := h.own z (by
      rcases hz with hz | hz
      · exact List.mem_append_left _ hz
      · exact List.mem_append_right _ (List.mem_cons_of_mem _ hz))
    rcases hm with hm | ⟨g, hm, hgs⟩
    · have := hzx z hz
      unfold Ap at this ⊢
      rw [hm]
      exact this
    · cases hzb : z.val.ownBlock with
      | none => exact .inl hzb
      | some k =>
        refine .inr (.inr ?_)
        rw [hzb, hm]
        intro e
        injection e with e
        have := (World.ownsRow.lt hown k hzb).2
        omega
  refine ⟨fun z hz => ?_, List.pairwise_append.2 ⟨p1, List.pairwise_cons.2 ⟨fun z hz => (hzy z (.inr hz)).symm, p5⟩, fun z hz u hu => ?_⟩⟩
  · have keep : ∀ z, z ∈ a ∨ z ∈ b → z.own W2 base := fun z hz => by
      have hown : z.own W base := h.own z (by
        rcases hz with hz | hz
        · exact List.mem_append_left _ hz
        · exact List.mem_append_right _ (List.mem_cons_of_mem _ hz))
      exact World.ownsRow.kept hown hg (hzx z hz).kept
    rcases List.mem_append.1 hz with hz | hz
    · exact keep z (.inl hz)
    · rcases List.mem_cons.1 hz with rfl | hz
      · exact hy
      · exact keep z (.inr hz)
  · rcases List.mem_cons.1 hu with rfl | hu
    · exact hzy z (.inl hz)
    · exact p3 z hz u (List.mem_cons_of_mem _ hu)
theorem split_at {α : Type} {F : List α} {t : Nat} {x : α} (h : F[t]? = some x) : F = F.take t ++ x :: F.drop (t + 1) := by
  obtain ⟨h1, h2⟩ := List.getElem?_eq_some_iff.1 h
  rw [← h2, ← List.drop_eq_getElem_cons h1, List.take_append_drop]
theorem set_split {α : Type} {F : List α} {t : Nat} {x y : α} (h : F[t]? = some x) : F.set t y = F.take t ++ y :: F.drop (t + 1) := by
  obtain ⟨h1, _⟩ := List.getElem?_eq_some_iff.1 h
  exact List.set_eq_take_append_cons_drop.trans (if_pos h1)
theorem Fam.set {W W2 : World} {base : Nat} {F : List Rw} {t : Nat} {x y : Rw} (h : Fam W base F) (ht : F[t]? = some x) (hg : W.grownBy W2 x.val.ownBlock) (hy : y.own W2 base) (hm : y.val.ownBlock = x.val.ownBlock ∨ ∃ g, y.val.ownBlock = some g ∧ W.heap.size ≤ g) : Fam W2 base (F.set t y) := by
  rw [set_split ht]
  rw [split_at ht] at h
  exact h.grow hg hy hm
/-- A store into a block that holds no numbers. -/
theorem Fam.other {W : World} {base g j : Nat} {F : List Rw} {u : Value} {cs : Array Value} {t : TypeId} {f : Nat × Nat} (h : Fam W base F) (hb : W.heap[g]? = some (.cells cs t f)) (ht : t ≠ 3) : Fam (W.setCell ⟨g, j, none⟩ u) base F := by
  refine ⟨fun x hx => World.ownsRow.kept (h.own x hx) (set_grown _ _ _) ?_, h.ap⟩
  rcases (h.own x hx).2 with ⟨hv, _⟩ | ⟨k, cap, cur, hv, _, hg, _⟩
  · rw [hv]; exact .inl rfl
  · rw [hv]
    refine .inr fun e => ?_
    simp only [Value.ownBlock, Option.some.injEq] at e
    subst e
    rw [hg] at hb
    injection hb with hb
    injection hb with _ hb _
    exact ht hb.symm
/-- A row that is cut short. -/
theorem own_cut {W : World} {base e s n k c : Nat} {A : Option Addr} {xs : List Value} (h : W.ownsRow base e s (.slice A n c) n xs) (hk : k ≤ n) (hn : A ≠ none) : W.ownsRow base e s (.slice A k c) k (xs.take (k * s)) := by
  refine ⟨by rw [List.length_take, h.1, Nat.min_eq_left (Nat.mul_le_mul_right _ hk)], ?_⟩
  rcases h.2 with ⟨hv, _⟩ | ⟨g, cap, cur, hv, hb, hg, h1, h2, h3, h4⟩
  · injection hv with hv _ _
    exact absurd hv hn
  · injection hv with hv1 _ hv3
    subst hv1 hv3
    refine .inr ⟨g, c, cur, rfl, hb, hg, Nat.le_trans hk h1, h2, h3, ?_⟩
    rw [← h4, List.take_take, Nat.min_eq_left (Nat.mul_le_mul_right _ hk)]
end Go.Proofs.YtebdffabfimmkaaDoor
