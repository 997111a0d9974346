/- Rows of numbers, sorted and made compact. (The seat's shelf lays slices.Sort and slices.Compact.) -/
import Derived.Test.YtebdffabfimmkaaDoorPut
import Derived.Test.YtebdffabfimmkaaDoorShelf
import Derived.Sort.OwnSortedInts
import Derived.Lib.OwnBridge
import Derived.Lib.SlicesCompact
import Derived.Lib.RowBridge
namespace Go.Proofs.YtebdffabfimmkaaDoor
open Go.RowKit Go.Sort

def sorted (zs : List Int) : List Int := zs.mergeSort fun x y => decide (x ≤ y)
theorem sorted_mem (zs : List Int) (x : Int) : x ∈ sorted zs ↔ x ∈ zs := List.mem_mergeSort
theorem sorted_len (zs : List Int) : (sorted zs).length = zs.length := List.length_mergeSort _
theorem sorted_le (zs : List Int) : (sorted zs).Pairwise fun x y => x ≤ y := by
  have h := List.pairwise_mergeSort (le := fun x y : Int => decide (x ≤ y)) (fun a b c h1 h2 => by simp at h1 h2 ⊢; omega) (fun a b => by simp; omega) zs
  exact h.imp fun h => by simpa using h
theorem sorted_lt {zs : List Int} (h : zs.Nodup) : (sorted zs).Pairwise fun x y => x < y := by
  have hn : (sorted zs).Nodup := (List.mergeSort_perm zs _).nodup_iff.2 h
  exact ((sorted_le zs).and hn).imp fun ⟨h1, h2⟩ => by omega
/-- Two rising lists with the same elements. -/
theorem lt_ext : ∀ {l m : List Int}, l.Pairwise (fun x y => x < y) → m.Pairwise (fun x y => x < y) → (∀ x, x ∈ l ↔ x ∈ m) → l = m
  | [], [], _, _, _ => rfl
  | [], y :: m, _, _, h => absurd ((h y).2 (List.mem_cons_self ..)) List.not_mem_nil
  | x :: l, [], _, _, h => absurd ((h x).1 (List.mem_cons_self ..)) List.not_mem_nil
  | x :: l, y :: m, h1, h2, h => by
    obtain ⟨a1, a2⟩ := List.pairwise_cons.1 h1
    obtain ⟨b1, b2⟩ := List.pairwise_cons.1 h2
    have hxy : x = y := by
      have hx := (h x).1 (List.mem_cons_self ..)
      have hy := (h y).2 (List.mem_cons_self ..)
      rcases List.mem_cons.1 hx with e | hx
      · exact e
      · rcases List.mem_cons.1 hy with e | hy
        · exact e.symm
        · have := b1 x hx; have := a1 y hy; omega
    subst hxy
    rw [lt_ext a2 b2 fun z => ?_]
    constructor
    · intro hz
      rcases List.mem_cons.1 ((h z).1 (List.mem_cons_of_mem _ hz)) with e | hz'
      · have := a1 z hz; omega
      · exact hz'
    · intro hz
      rcases List.mem_cons.1 ((h z).2 (List.mem_cons_of_mem _ hz)) with e | hz'
      · have := b1 z hz; omega
      · exact hz'
theorem compact_upto {d : Array Int} (hs : ∀ j, j + 1 < d.size → d[j]! ≤ d[j + 1]!) : ∀ m, m ≤ d.size → (Lib.compactUpTo d m).Pairwise (fun x y => x < y) ∧ (∀ x ∈ Lib.compactUpTo d m, (∃ j, j < m ∧ d[j]! = x) ∧ (0 < m → x ≤ d[m - 1]!)) ∧ ∀ j, j < m → d[j]! ∈ Lib.compactUpTo d m
  | 0, _ => by
    have : Lib.compactUpTo d 0 = [] := rfl
    rw [this]
    exact ⟨List.Pairwise.nil, fun x hx => absurd hx List.not_mem_nil, fun j hj => absurd hj (Nat.not_lt_zero _)⟩
  | m + 1, hm => by
    obtain ⟨i1, i2, i3⟩ := compact_upto hs m (by omega)
    rw [Lib.compactUpTo_succ]
    have hprev : 0 < m → d[m - 1]! ≤ d[m]! := fun h0 => by
      have := hs (m - 1) (by omega)
      rwa [show m - 1 + 1 = m by omega] at this
    have hle : ∀ x ∈ Lib.compactUpTo d m, x ≤ d[m]! := fun x hx => by
      obtain ⟨⟨j, hj, _⟩, h2⟩ := i2 x hx
      have := h2 (by omega)
      have := hprev (by omega)
      omega
    by_cases hk : Lib.keeps d m = true
    · rw [if_pos hk]
      refine ⟨List.pairwise_append.2 ⟨i1, List.pairwise_singleton _ _, fun x hx y hy => ?_⟩, fun x hx => ?_, fun j hj => ?_⟩
      · rw [List.mem_singleton.1 hy]
        obtain ⟨⟨j, hj, _⟩, h2⟩ := i2 x hx
        have h3 := h2 (by omega)
        have h4 := hprev (by omega)
        have h5 : d[m]! ≠ d[m - 1]! := by
          intro e
          rw [Lib.keeps_neg (by omega) e] at hk
          cases hk
        omega
      · rw [Nat.add_sub_cancel]
        rcases List.mem_append.1 hx with hx | hx
        · obtain ⟨⟨j, hj, h1⟩, _⟩ := i2 x hx
          exact ⟨⟨j, by omega, h1⟩, fun _ => hle x hx⟩
        · rw [List.mem_singleton.1 hx]
          exact ⟨⟨m, by omega, rfl⟩, fun _ => Int.le_refl _⟩
      · by_cases e : j = m
        · rw [e]; exact List.mem_append_right _ (List.mem_singleton.2 rfl)
        · exact List.mem_append_left _ (i3 j (by omega))
    · rw [if_neg hk, List.append_nil]
      have hm0 : 0 < m := by
        rcases Nat.eq_zero_or_pos m with h0 | h0
        · subst h0; exact absurd (Lib.keeps_lt_one d 0 (by omega)) hk
        · exact h0
      have he : d[m]! = d[m - 1]! := by
        apply Classical.byContradiction
        intro hne
        exact hk (Lib.keeps_pos hne)
      refine ⟨i1, fun x hx => ?_, fun j hj => ?_⟩
      · rw [Nat.add_sub_cancel]
        obtain ⟨⟨j, hj, h1⟩, _⟩ := i2 x hx
        exact ⟨⟨j, by omega, h1⟩, fun _ => hle x hx⟩
      · by_cases e : j = m
        · rw [e, he]; exact i3 (m - 1) (by omega)
        · exact i3 j (by omega)
theorem compact_sorted {zs : List Int} (h : zs.Pairwise fun x y => x ≤ y) : (Lib.compact zs).Pairwise (fun x y => x < y) ∧ ∀ x, x ∈ Lib.compact zs ↔ x ∈ zs := by
  have hget : ∀ j, j < zs.length → zs.toArray[j]! = zs[j]?.getD 0 := fun j hj => by
    rw [getElem!_pos _ j (by simpa using hj), List.getElem?_eq_getElem hj]
    rfl
  have hs : ∀ j, j + 1 < zs.toArray.size → zs.toArray[j]! ≤ zs.toArray[j + 1]! := fun j hj => by
    have hj' : j + 1 < zs.length := by simpa using hj
    rw [hget j (by omega), hget (j + 1) hj', List.getElem?_eq_getElem (by omega), List.getElem?_eq_getElem hj']
    exact List.pairwise_iff_getElem.1 h j (j + 1) (by omega) hj' (by omega)
  obtain ⟨h1, h2, h3⟩ := compact_upto hs zs.length (by simp)
  refine ⟨h1, fun x => ⟨fun hx => ?_, fun hx => ?_⟩⟩
  · obtain ⟨⟨j, hj, e⟩, _⟩ := h2 x hx
    rw [hget j hj, List.getElem?_eq_getElem hj] at e
    rw [← e]
    exact List.getElem_mem hj
  · obtain ⟨j, hj⟩ := List.mem_iff_getElem?.1 hx
    have hjl := (List.getElem?_eq_some_iff.1 hj).1
    have := h3 j hjl
    rw [hget j hjl, hj] at this
    exact this
/-! ### In memory -/
theorem sort_own {W : World} {base n c : Nat} {A : Option Addr} {zs : List Int} (h : W.ownsRow base 3 1 (.slice A n c) n (zs.map (.int .i64))) (hn : n < 4611686018427387904) :
    Calls Tryd.prog 45 #[.slice A n c] W fun e w' => e = .returned (.tuple #[]) ∧ w'.ownsRow base 3 1 (.slice A n c) n ((sorted zs).map (.int .i64)) ∧ W.grownBy w' (Value.slice A n c).ownBlock := by
  have hl : zs.length = n := by simpa using h.1
  by_cases h0 : n = 0
  · subst h0
    have hz : zs = [] := List.eq_nil_of_length_eq_zero hl
    subst hz
    refine (Tryd.slices_Sort_int_none A c W).mono ?_
    rintro e w' ⟨rfl, rfl⟩
    exact ⟨rfl, by simpa [sorted] using h, World.grownBy.refl _ _⟩
  · obtain ⟨g, rfl, hb, hg⟩ := own_head h (by omega)
    obtain ⟨g', cap, hv, _, _, _, _, _, hH⟩ := Lib.holds_of_ownsRow h (by simp)
    injection hv with hv1 _ hv3
    injection hv1 with hv1
    injection hv1 with hv1 _ _
    subst hv1 hv3
    have hS := Tryd.slices_Sort_int g 0 c zs W hH hg (by omega)
    rw [hl] at hS
    refine hS.mono ?_
    rintro e w' ⟨rfl, q, os, rfl⟩
    obtain ⟨cap, cur, hv, h1, h2, h3, h4, h5⟩ : ∃ cap cur, c = cap ∧ W.heap[g]? = some (.cells cur 3 (0, 0)) ∧ n ≤ cap ∧ cap ≤ maxLen ∧ cur.size = cap * 1 ∧ base ≤ g := by
      rcases h.2 with ⟨hx, _⟩ | ⟨g2, cap, cur, hx, hb2, hg2, h1, h2, h3, _⟩
      · cases hx
      · injection hx with hx1 _ hx3
        injection hx1 with hx1
        injection hx1 with hx1 _ _
        subst hx1
        exact ⟨cap, cur, hx3, hg2, h1, h2, h3, hb2⟩
    subst hv
    have := ownsRow_sortedI (n := q) (os := os) (ss := zs) (ts := sorted zs) (sorted_len zs) h5 h1 (by omega) h3 h4
    rw [hl] at this
    exact ⟨rfl, this, grownBy_sortedI _⟩
theorem compact_own {W : World} {base n c : Nat} {A : Option Addr} {zs : List Int} (h : W.ownsRow base 3 1 (.slice A n c) n (zs.map (.int .i64))) (hn : n < 4611686018427387904) (h0 : 0 < n) :
    Calls Tryd.prog 46 #[.slice A n c] W fun e w' => e = .returned (.slice A (Lib.compact zs).length c) ∧ w'.ownsRow base 3 1 (.slice A (Lib.compact zs).length c) (Lib.compact zs).length ((Lib.compact zs).map (.int .i64)) ∧ W.grownBy w' (Value.slice A n c).ownBlock := by
  have hl : zs.length = n := by simpa using h.1
  obtain ⟨g, rfl, hb, hg⟩ := own_head h (by omega)
  obtain ⟨g', cap, hv, _, _, hnc, _, _, hH⟩ := Lib.holds_of_ownsRow h (by simp)
  injection hv with hv1 _ hv3
  injection hv1 with hv1
  injection hv1 with hv1 _ _
  subst hv1 hv3
  have hS := Tryd.slices_Compact_int g 0 c zs W hH (by omega) (by omega)
  rw [hl] at hS
  refine hS.mono ?_
  rintro e w' ⟨rfl, q, rfl⟩
  have hle := Lib.compact_length_le zs
  have := Lib.ownsRow_putRow (q := q) (k := (Lib.compact zs).length) (ys := Lib.compact zs ++ List.replicate (n - (Lib.compact zs).length) 0) h (by rw [List.length_append, List.length_replicate]; omega) (by omega)
  rw [List.take_left' rfl] at this
  refine ⟨rfl, this, ?_⟩
  have := grownBy_sortedI (w := W) (g := g) (n := q) (os := #[]) (Lib.compact zs ++ List.replicate (n - (Lib.compact zs).length) 0).toArray
  rw [grow_empty] at this
  exact this
end Go.Proofs.YtebdffabfimmkaaDoor
