/- Rows of numbers, sorted and made compact. (The seat's shelf lays slices.Sort and slices.Compact.) -/
import Derived.Test.YtclahhkcbkpofaaDoorHFz12
import Derived.Test.YtclahhkcbkpofaaDoorHFz6
import Derived.Sort.OwnSortedInts
import Derived.Lib.OwnBridge
import Derived.Lib.SlicesCompact
import Derived.Lib.RowBridge
import Derived.Test.YtclahhkcbkpofaaDoorHFz13
import Derived.Test.YtclahhkcbkpofaaDoorHFz10
import Derived.Deep.OwnRows
namespace Go.Proofs.YtclahhkcbkpofaaDoor
open Go.RowKit Go.Sort
def sorted (zs : List Int) : List Int := zs.mergeSort fun x y => decide (x ≤ y)
theorem sorted_mem (zs : List Int) (x : Int) : x ∈ sorted zs ↔ x ∈ zs := List.mem_mergeSort
theorem sorted_len (zs : List Int) : (sorted zs).length = zs.length := List.length_mergeSort _
theorem sorted_le (zs : List Int) : (sorted zs).Pairwise fun x y => x ≤ y := by
  have h := List.pairwise_mergeSort (le := fun x y : Int => decide (x ≤ y)) (fun a b c h1 h2 => by simp at h1 h2 ⊢; omega) (fun a b => by simp; omega) zs
  exact h.imp fun h => by simpa using h
theorem sorted_lt {zs : List Int} (h : zs.Nodup) : (sorted zs).Pairwise fun x y => x < y := by
  have hn : (sorted zs).Nodup := (List.mergeSort_perm zs _).nodup_iff.2 h
  exact ((sorted_le zs).and hn).imp fun ⟨h1, h2⟩ => by omega
/-- Two rising lists with the same elements. -/
theorem lt_ext : ∀ {l m : List Int}, l.Pairwise (fun x y => x < y) → m.Pairwise (fun x y => x < y) → (∀ x, x ∈ l ↔ x ∈ m) → l = m
  | [], [], _, _, _ => rfl
  | [], y :: m, _, _, h => absurd ((h y).2 (List.mem_cons_self ..)) List.not_mem_nil
  | x :: l, [], _, _, h => absurd ((h x).1 (List.mem_cons_self ..)) List.not_mem_nil
  | x :: l, y :: m, h1, h2, h => by
    obtain ⟨a1, a2⟩ := List.pairwise_cons.1 h1
    obtain ⟨b1, b2⟩ := List.pairwise_cons.1 h2
    have hxy : x = y := by
      have hx := (h x).1 (List.mem_cons_self ..)
      have hy := (h y).2 (List.mem_cons_self ..)
      rcases List.mem_cons.1 hx with e | hx
      · exact e
      · rcases List.mem_cons.1 hy with e | hy
        · exact e.symm
        · have := b1 x hx; have := a1 y hy; omega
    subst hxy
    rw [lt_ext a2 b2 fun z => ?_]
    constructor
    · intro hz
      rcases List.mem_cons.1 ((h z).1 (List.mem_cons_of_mem _ hz)) with e | hz'
      · have := a1 z hz; omega
      · exact hz'
    · intro hz
      rcases List.mem_cons.1 ((h z).2 (List.mem_cons_of_mem _ hz)) with e | hz'
      · have := b1 z hz; omega
      · exact hz'
theorem compact_upto {d : Array Int} (hs : ∀ j, j + 1 < d.size → d[j]! ≤ d[j + 1]!) : ∀ m, m ≤ d.size → (Lib.compactUpTo d m).Pairwise (fun x y => x < y) ∧ (∀ x ∈ Lib.compactUpTo d m, (∃ j, j < m ∧ d[j]! = x) ∧ (0 < m → x ≤ d[m - 1]!)) ∧ ∀ j, j < m → d[j]! ∈ Lib.compactUpTo d m
  | 0, _ => by
    have : Lib.compactUpTo d 0 = [] := rfl
    rw [this]
    exact ⟨List.Pairwise.nil, fun x hx => absurd hx List.not_mem_nil, fun j hj => absurd hj (Nat.not_lt_zero _)⟩
  | m + 1, hm => by
    obtain ⟨i1, i2, i3⟩ := compact_upto hs m (by omega)
    rw [Lib.compactUpTo_succ]
    have hprev : 0 < m → d[m - 1]! ≤ d[m]! := fun h0 => by
      have := hs (m - 1) (by omega)
      rwa [show m - 1 + 1 = m by omega] at this
    have hle : ∀ x ∈ Lib.compactUpTo d m, x ≤ d[m]! := fun x hx => by
      obtain ⟨⟨j, hj, _⟩, h2⟩ := i2 x hx
      have := h2 (by omega)
      have := hprev (by omega)
      omega
    by_cases hk : Lib.keeps d m = true
    · rw [if_pos hk]
      refine ⟨List.pairwise_append.2 ⟨i1, List.pairwise_singleton _ _, fun x hx y hy => ?_⟩, fun x hx => ?_, fun j hj => ?_⟩
      · rw [List.mem_singleton.1 hy]
        obtain ⟨⟨j, hj, _⟩, h2⟩ := i2 x hx
        have h3 := h2 (by omega)
        have h4 := hprev (by omega)
        have h5 : d[m]! ≠ d[m - 1]! := by
          intro e
          rw [Lib.keeps_neg (by omega) e] at hk
          cases hk
        omega
      · rw [Nat.add_sub_cancel]
        rcases List.mem_append.1 hx with hx | hx
        · obtain ⟨⟨j, hj, h1⟩, _⟩ := i2 x hx
          exact ⟨⟨j, by omega, h1⟩, fun _ => hle x hx⟩
        · rw [List.mem_singleton.1 hx]
          exact ⟨⟨m, by omega, rfl⟩, fun _ => Int.le_refl _⟩
      · by_cases e : j = m
        · rw [e]; exact List.mem_append_right _ (List.mem_singleton.2 rfl)
        · exact List.mem_append_left _ (i3 j (by omega))
    · rw [if_neg hk, List.append_nil]
      have hm0 : 0 < m := by
        rcases Nat.eq_zero_or_pos m with h0 | h0
        · subst h0; exact absurd (Lib.keeps_lt_one d 0 (by omega)) hk
        · exact h0
      have he : d[m]! = d[m - 1]! := by
        apply Classical.byContradiction
        intro hne
        exact hk (Lib.keeps_pos hne)
      refine ⟨i1, fun x hx => ?_, fun j hj => ?_⟩
      · rw [Nat.add_sub_cancel]
        obtain ⟨⟨j, hj, h1⟩, _⟩ := i2 x hx
        exact ⟨⟨j, by omega, h1⟩, fun _ => hle x hx⟩
      · by_cases e : j = m
        · rw [e, he]; exact i3 (m - 1) (by omega)
        · exact i3 j (by omega)
theorem compact_sorted {zs : List Int} (h : zs.Pairwise fun x y => x ≤ y) : (Lib.compact zs).Pairwise (fun x y => x < y) ∧ ∀ x, x ∈ Lib.compact zs ↔ x ∈ zs := by
  have hget : ∀ j, j < zs.length → zs.toArray[j]! = zs[j]?.getD 0 := fun j hj => by
    rw [getElem!_pos _ j (by simpa using hj), List.getElem?_eq_getElem hj]
    rfl
  have hs : ∀ j, j + 1 < zs.toArray.size → zs.toArray[j]! ≤ zs.toArray[j + 1]! := fun j hj => by
    have hj' : j + 1 < zs.length := by simpa using hj
    rw [hget j (by omega), hget (j + 1) hj', List.getElem?_eq_getElem (by omega), List.getElem?_eq_getElem hj']
    exact List.pairwise_iff_getElem.1 h j (j + 1) (by omega) hj' (by omega)
  obtain ⟨h1, h2, h3⟩ := compact_upto hs zs.length (by simp)
  refine ⟨h1, fun x => ⟨fun hx => ?_, fun hx => ?_⟩⟩
  · obtain ⟨⟨j, hj, e⟩, _⟩ := h2 x hx
    rw [hget j hj, List.getElem?_eq_getElem hj] at e
    rw [← e]
    exact List.getElem_mem hj
  · obtain ⟨j, hj⟩ := List.mem_iff_getElem?.1 hx
    have hjl := (List.getElem?_eq_some_iff.1 hj).1
    have := h3 j hjl
    rw [hget j hjl, hj] at this
    exact this
/-! ### In memory -/
theorem sort_own {W : World} {base n c : Nat} {A : Option Addr} {zs : List Int} (h : W.ownsRow base 3 1 (.slice A n c) n (zs.map (.int .i64))) (hn : n < 4611686018427387904) :
    Calls Tryd.prog 59 #[.slice A n c] W fun e w' => e = .returned (.tuple #[]) ∧ w'.ownsRow base 3 1 (.slice A n c) n ((sorted zs).map (.int .i64)) ∧ W.grownBy w' (Value.slice A n c).ownBlock := by
  have hl : zs.length = n := by simpa using h.1
  by_cases h0 : n = 0
  · subst h0
    have hz : zs = [] := List.eq_nil_of_length_eq_zero hl
    subst hz
    refine (Tryd.slices_Sort_int_none A c W).mono ?_
    rintro e w' ⟨rfl, rfl⟩
    exact ⟨rfl, by simpa [sorted] using h, World.grownBy.refl _ _⟩
  · obtain ⟨g, rfl, hb, hg⟩ := own_head h (by omega)
    obtain ⟨g', cap, hv, _, _, _, _, _, hH⟩ := Lib.holds_of_ownsRow h (by simp)
    injection hv with hv1 _ hv3
    injection hv1 with hv1
    injection hv1 with hv1 _ _
    subst hv1 hv3
    have hS := Tryd.slices_Sort_int g 0 c zs W hH hg (by omega)
    rw [hl] at hS
    refine hS.mono ?_
    rintro e w' ⟨rfl, q, os, rfl⟩
    obtain ⟨cap, cur, hv, h1, h2, h3, h4, h5⟩ : ∃ cap cur, c = cap ∧ W.heap[g]? = some (.cells cur 3 (0, 0)) ∧ n ≤ cap ∧ cap ≤ maxLen ∧ cur.size = cap * 1 ∧ base ≤ g := by
      rcases h.2 with ⟨hx, _⟩ | ⟨g2, cap, cur, hx, hb2, hg2, h1, h2, h3, _⟩
      · cases hx
      · injection hx with hx1 _ hx3
        injection hx1 with hx1
        injection hx1 with hx1 _ _
        subst hx1
        exact ⟨cap, cur, hx3, hg2, h1, h2, h3, hb2⟩
    subst hv
    have := ownsRow_sortedI (n := q) (os := os) (ss := zs) (ts := sorted zs) (sorted_len zs) h5 h1 (by omega) h3 h4
    rw [hl] at this
    exact ⟨rfl, this, grownBy_sortedI _⟩
theorem compact_own {W : World} {base n c : Nat} {A : Option Addr} {zs : List Int} (h : W.ownsRow base 3 1 (.slice A n c) n (zs.map (.int .i64))) (hn : n < 4611686018427387904) (h0 : 0 < n) :
    Calls Tryd.prog 60 #[.slice A n c] W fun e w' => e = .returned (.slice A (Lib.compact zs).length c) ∧ w'.ownsRow base 3 1 (.slice A (Lib.compact zs).length c) (Lib.compact zs).length ((Lib.compact zs).map (.int .i64)) ∧ W.grownBy w' (Value.slice A n c).ownBlock := by
  have hl : zs.length = n := by simpa using h.1
  obtain ⟨g, rfl, hb, hg⟩ := own_head h (by omega)
  obtain ⟨g', cap, hv, _, _, hnc, _, _, hH⟩ := Lib.holds_of_ownsRow h (by simp)
  injection hv with hv1 _ hv3
  injection hv1 with hv1
  injection hv1 with hv1 _ _
  subst hv1 hv3
  have hS := Tryd.slices_Compact_int g 0 c zs W hH (by omega) (by omega)
  rw [hl] at hS
  refine hS.mono ?_
  rintro e w' ⟨rfl, q, rfl⟩
  have hle := Lib.compact_length_le zs
  have := Lib.ownsRow_putRow (q := q) (k := (Lib.compact zs).length) (ys := Lib.compact zs ++ List.replicate (n - (Lib.compact zs).length) 0) h (by rw [List.length_append, List.length_replicate]; omega) (by omega)
  rw [List.take_left' rfl] at this
  refine ⟨rfl, this, ?_⟩
  have := grownBy_sortedI (w := W) (g := g) (n := q) (os := #[]) (Lib.compact zs ++ List.replicate (n - (Lib.compact zs).length) 0).toArray
  rw [grow_empty] at this
  exact this
end Go.Proofs.YtclahhkcbkpofaaDoor
/- What is reached by free steps (plain Lean). -/
namespace Go.Proofs.YtclahhkcbkpofaaDoor
open Go.RowKit
/-- What some lead to by nothing, and these. -/
inductive Clo (l : List Lst) (P : Nat → Prop) : Nat → Prop
  | base {x : Nat} (h : P x) : Clo l P x
  | step {y x : Nat} {s : Lst} (hy : Clo l P y) (hs : l[y]? = some s) (hx : ((x : Nat) : Int) ∈ s.free) : Clo l P x
open Classical in
/-- A set as a rising list. -/
noncomputable def setL (n : Nat) (P : Nat → Prop) : List Int := ((List.range n).filter fun x => decide (P x)).map fun x : Nat => (x : Int)
open Classical in
theorem setL_mem {n : Nat} {P : Nat → Prop} {z : Int} : z ∈ setL n P ↔ ∃ x : Nat, z = (x : Int) ∧ x < n ∧ P x := by
  unfold setL
  rw [List.mem_map]
  constructor
  · rintro ⟨x, hx, rfl⟩
    rw [List.mem_filter, List.mem_range] at hx
    exact ⟨x, rfl, hx.1, of_decide_eq_true hx.2⟩
  · rintro ⟨x, rfl, h1, h2⟩
    exact ⟨x, by rw [List.mem_filter, List.mem_range]; exact ⟨h1, decide_eq_true h2⟩, rfl⟩
open Classical in
theorem setL_lt (n : Nat) (P : Nat → Prop) : (setL n P).Pairwise fun x y => x < y := by
  unfold setL
  rw [List.pairwise_map]
  refine List.Pairwise.filter _ ?_
  refine List.pairwise_lt_range.imp fun h => ?_
  omega
theorem setL_congr {n : Nat} {P Q : Nat → Prop} (h : ∀ x, x < n → (P x ↔ Q x)) : setL n P = setL n Q := by
  refine lt_ext (setL_lt n P) (setL_lt n Q) fun z => ?_
  rw [setL_mem, setL_mem]
  constructor
  · rintro ⟨x, h1, h2, h3⟩; exact ⟨x, h1, h2, (h x h2).1 h3⟩
  · rintro ⟨x, h1, h2, h3⟩; exact ⟨x, h1, h2, (h x h2).2 h3⟩
theorem setL_len (n : Nat) (P : Nat → Prop) : (setL n P).length ≤ n := by
  unfold setL
  rw [List.length_map]
  exact Nat.le_trans (List.length_filter_le _ _) (by rw [List.length_range]; exact Nat.le_refl _)
/-- Loose states that are such. -/
structure LGood (l : List Lst) : Prop where
  ne : l ≠ []
  arc : ∀ s ∈ l, ∀ a ∈ s.arcs, 0 ≤ a.1 ∧ a.1 ≤ a.2.1 ∧ a.2.1 ≤ 255 ∧ 0 ≤ a.2.2 ∧ a.2.2 < (l.length : Int)
  fre : ∀ s ∈ l, ∀ t ∈ s.free, 0 ≤ t ∧ t < (l.length : Int)
theorem loose_iff (l : List Lst) : looseB l = true ↔ LGood l := by
  unfold looseB
  rw [Bool.and_eq_true, List.all_eq_true]
  constructor
  · rintro ⟨h1, h2⟩
    refine ⟨fun e => (by rw [e] at h1; cases h1), fun s hs a ha => ?_, fun s hs t ht => ?_⟩
    · have := h2 s hs
      rw [Bool.and_eq_true, List.all_eq_true, List.all_eq_true] at this
      exact of_decide_eq_true (this.1 a ha)
    · have := h2 s hs
      rw [Bool.and_eq_true, List.all_eq_true, List.all_eq_true] at this
      exact of_decide_eq_true (this.2 t ht)
  · intro h
    refine ⟨?_, fun s hs => ?_⟩
    · cases l with
      | nil => exact absurd rfl h.ne
      | cons a r => rfl
    · rw [Bool.and_eq_true, List.all_eq_true, List.all_eq_true]
      exact ⟨fun a ha => decide_eq_true (h.arc s hs a ha), fun t ht => decide_eq_true (h.fre s hs t ht)⟩
/-- How much is still to come at most. -/
def mu : List Lst → List Bool → Nat
  | s :: r, b :: t => (if b then 0 else s.free.length + 1) + mu r t
  | _, _ => 0
theorem mu_set : ∀ {l : List Lst} {L : List Bool} {k : Nat} {s : Lst}, l[k]? = some s → L[k]? = some false → mu l (L.set k true) + (s.free.length + 1) = mu l L
  | [], _, _, _, h, _ => by cases h
  | _ :: _, [], _, _, _, h => by cases h
  | s :: r, b :: t, 0, s', h, hb => by
    simp at h hb
    subst h hb
    simp [mu]
    omega
  | s :: r, b :: t, k + 1, s', h, hb => by
    have := mu_set (l := r) (L := t) (k := k) (s := s') (by simpa using h) (by simpa using hb)
    simp only [List.set_cons_succ, mu]
    omega
theorem mu_le : ∀ {l : List Lst} {L : List Bool}, (∀ s ∈ l, s.free.length ≤ 2097152) → mu l L ≤ l.length * 2097153
  | [], _, _ => Nat.zero_le _
  | _ :: _, [], _ => Nat.zero_le _
  | s :: r, b :: t, h => by
    have h1 := mu_le (l := r) (L := t) fun x hx => h x (List.mem_cons_of_mem _ hx)
    have h2 := h s (List.mem_cons_self ..)
    rw [mu, List.length_cons, Nat.add_mul]
    split <;> omega
/-- What free holds. -/
structure FreP (l : List Lst) (F0 : List Int) (L : List Bool) (O F : List Int) : Prop where
  len : L.length = l.length
  nd : O.Nodup
  iff : ∀ x : Nat, x < l.length → (L[x]? = some true ↔ ((x : Nat) : Int) ∈ O)
  oin : ∀ y ∈ O, ∃ k : Nat, y = (k : Int) ∧ k < l.length ∧ Clo l (fun x => ((x : Nat) : Int) ∈ F0) k
  fin : ∀ y ∈ F, ∃ k : Nat, y = (k : Int) ∧ k < l.length ∧ Clo l (fun x => ((x : Nat) : Int) ∈ F0) k
  bas : ∀ y ∈ F0, y ∈ O ∨ y ∈ F
  cls : ∀ (k : Nat) s, ((k : Nat) : Int) ∈ O → l[k]? = some s → ∀ y ∈ s.free, y ∈ O ∨ y ∈ F
theorem FreP.start {l : List Lst} {F0 : List Int} (h : ∀ y ∈ F0, ∃ k : Nat, y = (k : Int) ∧ k < l.length) : FreP l F0 (List.replicate l.length false) [] F0 := by
  refine ⟨by simp, List.Pairwise.nil, fun x hx => ?_, fun y hy => absurd hy List.not_mem_nil, fun y hy => ?_, fun y hy => .inr hy, fun k s hk => absurd hk List.not_mem_nil⟩
  · rw [List.getElem?_replicate, if_pos hx]
    exact ⟨fun h => (by cases h), fun h => absurd h List.not_mem_nil⟩
  · obtain ⟨k, rfl, hk⟩ := h y hy
    exact ⟨k, rfl, hk, .base hy⟩
theorem FreP.skip {l : List Lst} {F0 O F : List Int} {L : List Bool} {x : Nat} (h : FreP l F0 L O (F ++ [(x : Int)])) (hx : L[x]? = some true) : FreP l F0 L O F := by
  have hxl : x < l.length := by rw [← h.len]; exact (List.getElem?_eq_some_iff.1 hx).1
  have hxO := (h.iff x hxl).1 hx
  have key : ∀ y, y ∈ O ∨ y ∈ F ++ [(x : Int)] → y ∈ O ∨ y ∈ F := fun y hy => by
    rcases hy with hy | hy
    · exact .inl hy
    · rcases List.mem_append.1 hy with hy | hy
      · exact .inr hy
      · rw [List.mem_singleton.1 hy]; exact .inl hxO
  exact ⟨h.len, h.nd, h.iff, h.oin, fun y hy => h.fin y (List.mem_append_left _ hy), fun y hy => key y (h.bas y hy), fun k s hk hs y hy => key y (h.cls k s hk hs y hy)⟩
theorem FreP.take {l : List Lst} {F0 O F : List Int} {L : List Bool} {x : Nat} {s : Lst} (hg : LGood l) (h : FreP l F0 L O (F ++ [(x : Int)])) (hx : L[x]? = some false) (hs : l[x]? = some s) : FreP l F0 (L.set x true) (O ++ [(x : Int)]) (F ++ s.free) := by
  have hxl : x < L.length := (List.getElem?_eq_some_iff.1 hx).1
  have hxn : x < l.length := by rw [← h.len]; exact hxl
  have hxO : ((x : Nat) : Int) ∉ O := fun hm => by
    have := (h.iff x hxn).2 hm
    rw [hx] at this
    cases this
  have hclo : Clo l (fun x => ((x : Nat) : Int) ∈ F0) x := by
    obtain ⟨k, hk, _, hc⟩ := h.fin (x : Int) (List.mem_append_right _ (List.mem_singleton.2 rfl))
    have : x = k := by omega
    rw [this]
    exact hc
  have key : ∀ y, y ∈ O ∨ y ∈ F ++ [(x : Int)] → y ∈ O ++ [(x : Int)] ∨ y ∈ F ++ s.free := fun y hy => by
    rcases hy with hy | hy
    · exact .inl (List.mem_append_left _ hy)
    · rcases List.mem_append.1 hy with hy | hy
      · exact .inr (List.mem_append_left _ hy)
      · exact .inl (List.mem_append_right _ hy)
  refine ⟨by rw [List.length_set]; exact h.len, ?_, fun y hy => ?_, fun y hy => ?_, fun y hy => ?_, fun y hy => key y (h.bas y hy), fun k s' hk hs' y hy => ?_⟩
  · refine List.nodup_append.2 ⟨h.nd, List.pairwise_singleton _ _, fun a ha b hb => ?_⟩
    rw [List.mem_singleton.1 hb]
    exact fun e => hxO (by rw [← e]; exact ha)
  · rw [List.getElem?_set]
    by_cases e : x = y
    · subst e
      rw [if_pos rfl, if_pos hxl]
      exact ⟨fun _ => List.mem_append_right _ (List.mem_singleton.2 rfl), fun _ => rfl⟩
    · rw [if_neg e, h.iff y hy]
      constructor
      · exact fun hm => List.mem_append_left _ hm
      · intro hm
        rcases List.mem_append.1 hm with hm | hm
        · exact hm
        · have := List.mem_singleton.1 hm; omega
  · rcases List.mem_append.1 hy with hy | hy
    · exact h.oin y hy
    · rw [List.mem_singleton.1 hy]
      exact ⟨x, rfl, hxn, hclo⟩
  · rcases List.mem_append.1 hy with hy | hy
    · exact h.fin y (List.mem_append_left _ hy)
    · have hb := hg.fre s (List.mem_of_getElem? hs) y hy
      refine ⟨y.toNat, by omega, by omega, .step hclo hs ?_⟩
      rw [show ((y.toNat : Nat) : Int) = y by omega]
      exact hy
  · rcases List.mem_append.1 hk with hk | hk
    · exact key y (h.cls k s' hk hs' y hy)
    · have : k = x := by have := List.mem_singleton.1 hk; omega
      subst this
      rw [hs] at hs'
      injection hs' with hs'
      subst hs'
      exact .inr (List.mem_append_right _ hy)
theorem FreP.last {l : List Lst} {F0 O : List Int} {L : List Bool} (h : FreP l F0 L O []) : sorted O = setL l.length (Clo l fun x => ((x : Nat) : Int) ∈ F0) := by
  refine lt_ext (sorted_lt h.nd) (setL_lt _ _) fun z => ?_
  rw [sorted_mem, setL_mem]
  constructor
  · intro hz
    obtain ⟨k, h1, h2, h3⟩ := h.oin z hz
    exact ⟨k, h1, h2, h3⟩
  · rintro ⟨k, rfl, hk, hc⟩
    have : ∀ x, Clo l (fun x => ((x : Nat) : Int) ∈ F0) x → ((x : Nat) : Int) ∈ O := by
      intro x hx
      induction hx with
      | base hb =>
        rcases h.bas _ hb with h1 | h1
        · exact h1
        · exact absurd h1 List.not_mem_nil
      | step _ hs hx ih =>
        rcases h.cls _ _ ih hs _ hx with h1 | h1
        · exact h1
        · exact absurd h1 List.not_mem_nil
    exact this k hc
theorem FreP.few {l : List Lst} {F0 O F : List Int} {L : List Bool} (h : FreP l F0 L O F) : O.length ≤ l.length := by
  have h1 : ∀ z, z ∈ sorted O → ∃ x : Nat, z = (x : Int) ∧ x < l.length := fun z hz => by
    obtain ⟨k, h1, h2, _⟩ := h.oin z ((sorted_mem O z).1 hz)
    exact ⟨k, h1, h2⟩
  have h2 : sorted O = setL l.length fun x => ((x : Nat) : Int) ∈ O := by
    refine lt_ext (sorted_lt h.nd) (setL_lt _ _) fun z => ?_
    rw [sorted_mem, setL_mem]
    constructor
    · intro hz
      obtain ⟨k, e, hk⟩ := h1 z ((sorted_mem O z).2 hz)
      exact ⟨k, e, hk, by rw [← e]; exact hz⟩
    · rintro ⟨k, rfl, _, hm⟩
      exact hm
  have h3 := setL_len l.length fun x => ((x : Nat) : Int) ∈ O
  rw [← h2, sorted_len] at h3
  exact h3
end Go.Proofs.YtclahhkcbkpofaaDoor
/- make of rows of one cell. -/
namespace Go.Proofs.YtclahhkcbkpofaaDoor
open Go.RowKit
theorem made_list (z : Value) : ∀ n, (madeCells #[z] n).toList = List.replicate n z := by
  intro n
  apply List.ext_getElem?
  intro j
  by_cases hj : j < n
  · simp [madeCells, hj, Nat.mod_one]
  · simp [madeCells, hj]
theorem make_int (n : Nat) (hn : n ≤ 1099511627776) (w : World) : (Instr.makeSlice 23 (.int .i64 (n : Int)) (.int .i64 (n : Int))).run Tryd.prog w = .ok (.slice (some ⟨w.heap.size, 0, none⟩) n n) (w.alloc (.cells (madeCells #[.int .i64 0] n) 3)) :=
  run_make_row' 23 3 (.int .i64 0) 8 Tryd.underlying23 (by kernel_rfl) rfl .i64 .i64 n (by omega) (by omega) w
theorem make_bool (n : Nat) (hn : n ≤ 1099511627776) (w : World) : (Instr.makeSlice 64 (.int .i64 (n : Int)) (.int .i64 (n : Int))).run Tryd.prog w = .ok (.slice (some ⟨w.heap.size, 0, none⟩) n n) (w.alloc (.cells (madeCells #[.bool false] n) 4)) :=
  run_make_row' 64 4 (.bool false) 1 Tryd.underlying64 (by kernel_rfl) rfl .i64 .i64 n (by omega) (by omega) w
theorem make_ints (n : Nat) (hn : n ≤ 1099511627776) (w : World) : (Instr.makeSlice 70 (.int .i64 (n : Int)) (.int .i64 (n : Int))).run Tryd.prog w = .ok (.slice (some ⟨w.heap.size, 0, none⟩) n n) (w.alloc (.cells (madeCells #[.slice none 0 0] n) 23)) :=
  run_make_row' 70 23 (.slice none 0 0) 24 Tryd.underlying70 (by kernel_rfl) rfl .i64 .i64 n (by omega) (by omega) w
theorem own_made (w : World) (z : Value) (n : Nat) (hn : n ≤ 1099511627776) (e : TypeId) {nb : Nat} (h : nb = w.heap.size) {base : Nat} (hb : base ≤ w.heap.size) : (w.alloc (.cells (madeCells #[z] n) e)).ownsRow base e 1 (.slice (some ⟨nb, 0, none⟩) n n) n (List.replicate n z) := by
  have hl := made_list z n
  have h1 := own_new w (madeCells #[z] n) e 1 n (by rw [← Array.length_toList, hl, List.length_replicate, Nat.mul_one]) (by unfold maxLen; omega) h hb
  rw [hl] at h1
  exact h1
end Go.Proofs.YtclahhkcbkpofaaDoor
/- Rows of numbers of the call's own, no two in one block. -/
namespace Go.Proofs.YtclahhkcbkpofaaDoor
open Go.RowKit
structure Rw where
  A : Option Addr
  c : Nat
  l : List Int
def Rw.val (x : Rw) : Value := .slice x.A x.l.length x.c
def Rw.own (W : World) (base : Nat) (x : Rw) : Prop := W.ownsRow base 3 1 x.val x.l.length (x.l.map (.int .i64))
/-- Two rows lie apart. -/
def Ap (x y : Rw) : Prop := x.val.ownBlock = none ∨ y.val.ownBlock = none ∨ x.val.ownBlock ≠ y.val.ownBlock
theorem Ap.symm {x y : Rw} (h : Ap x y) : Ap y x := by
  rcases h with h | h | h
  · exact .inr (.inl h)
  · exact .inl h
  · exact .inr (.inr fun e => h e.symm)
structure Fam (W : World) (base : Nat) (F : List Rw) : Prop where
  own : ∀ x ∈ F, x.own W base
  ap : F.Pairwise Ap
theorem Fam.below {W W' : World} {base : Nat} {F : List Rw} (h : Fam W base F) (hb : Below W.heap.size W W') : Fam W' base F := ⟨fun x hx => own_kept (h.own x hx) hb, h.ap⟩
theorem Ap.kept {x z : Rw} (h : Ap z x) : z.val.ownBlock = none ∨ z.val.ownBlock ≠ x.val.ownBlock := by
  rcases h with h | h | h
  · exact .inl h
  · cases hz : z.val.ownBlock with
    | none => exact .inl rfl
    | some g => exact .inr (by rw [h]; simp)
  · exact .inr h
theorem Fam.grow {W W2 : World} {base : Nat} {a b : List Rw} {x y : Rw} (h : Fam W base (a ++ x :: b)) (hg : W.grownBy W2 x.val.ownBlock) (hy : y.own W2 base) (hm : y.val.ownBlock = x.val.ownBlock ∨ ∃ g, y.val.ownBlock = some g ∧ W.heap.size ≤ g) : Fam W2 base (a ++ y :: b) := by
  obtain ⟨p1, p2, p3⟩ := List.pairwise_append.1 h.ap
  obtain ⟨p4, p5⟩ := List.pairwise_cons.1 p2
  have hzx : ∀ z, z ∈ a ∨ z ∈ b → Ap z x := fun z hz => by
    rcases hz with hz | hz
    · exact p3 z hz x (List.mem_cons_self ..)
    · exact (p4 z hz).symm
  have hzy : ∀ z, z ∈ a ∨ z ∈ b → Ap z y := fun z hz => by
    have hown : z.own W base := h.own z (by
      rcases hz with hz | hz
      · exact List.mem_append_left _ hz
      · exact List.mem_append_right _ (List.mem_cons_of_mem _ hz))
    rcases hm with hm | ⟨g, hm, hgs⟩
    · have := hzx z hz
      unfold Ap at this ⊢
      rw [hm]
      exact this
    · cases hzb : z.val.ownBlock with
      | none => exact .inl hzb
      | some k =>
        refine .inr (.inr ?_)
        rw [hzb, hm]
        intro e
        injection e with e
        have := (World.ownsRow.lt hown k hzb).2
        omega
  refine ⟨fun z hz => ?_, List.pairwise_append.2 ⟨p1, List.pairwise_cons.2 ⟨fun z hz => (hzy z (.inr hz)).symm, p5⟩, fun z hz u hu => ?_⟩⟩
  · have keep : ∀ z, z ∈ a ∨ z ∈ b → z.own W2 base := fun z hz => by
      have hown : z.own W base := h.own z (by
        rcases hz with hz | hz
        · exact List.mem_append_left _ hz
        · exact List.mem_append_right _ (List.mem_cons_of_mem _ hz))
      exact World.ownsRow.kept hown hg (hzx z hz).kept
    rcases List.mem_append.1 hz with hz | hz
    · exact keep z (.inl hz)
    · rcases List.mem_cons.1 hz with rfl | hz
      · exact hy
      · exact keep z (.inr hz)
  · rcases List.mem_cons.1 hu with rfl | hu
    · exact hzy z (.inl hz)
    · exact p3 z hz u (List.mem_cons_of_mem _ hu)
theorem split_at {α : Type} {F : List α} {t : Nat} {x : α} (h : F[t]? = some x) : F = F.take t ++ x :: F.drop (t + 1) := by
  obtain ⟨h1, h2⟩ := List.getElem?_eq_some_iff.1 h
  rw [← h2, ← List.drop_eq_getElem_cons h1, List.take_append_drop]
theorem set_split {α : Type} {F : List α} {t : Nat} {x y : α} (h : F[t]? = some x) : F.set t y = F.take t ++ y :: F.drop (t + 1) := by
  obtain ⟨h1, _⟩ := List.getElem?_eq_some_iff.1 h
  exact List.set_eq_take_append_cons_drop.trans (if_pos h1)
theorem Fam.set {W W2 : World} {base : Nat} {F : List Rw} {t : Nat} {x y : Rw} (h : Fam W base F) (ht : F[t]? = some x) (hg : W.grownBy W2 x.val.ownBlock) (hy : y.own W2 base) (hm : y.val.ownBlock = x.val.ownBlock ∨ ∃ g, y.val.ownBlock = some g ∧ W.heap.size ≤ g) : Fam W2 base (F.set t y) := by
  rw [set_split ht]
  rw [split_at ht] at h
  exact h.grow hg hy hm
/-- A store into a block that holds no numbers. -/
theorem Fam.other {W : World} {base g j : Nat} {F : List Rw} {u : Value} {cs : Array Value} {t : TypeId} {f : Nat × Nat} (h : Fam W base F) (hb : W.heap[g]? = some (.cells cs t f)) (ht : t ≠ 3) : Fam (W.setCell ⟨g, j, none⟩ u) base F := by
  refine ⟨fun x hx => World.ownsRow.kept (h.own x hx) (set_grown _ _ _) ?_, h.ap⟩
  rcases (h.own x hx).2 with ⟨hv, _⟩ | ⟨k, cap, cur, hv, _, hg, _⟩
  · rw [hv]; exact .inl rfl
  · rw [hv]
    refine .inr fun e => ?_
    simp only [Value.ownBlock, Option.some.injEq] at e
    subst e
    rw [hg] at hb
    injection hb with hb
    injection hb with _ hb _
    exact ht hb.symm
/-- A row that is cut short. -/
theorem own_cut {W : World} {base e s n k c : Nat} {A : Option Addr} {xs : List Value} (h : W.ownsRow base e s (.slice A n c) n xs) (hk : k ≤ n) (hn : A ≠ none) : W.ownsRow base e s (.slice A k c) k (xs.take (k * s)) := by
  refine ⟨by rw [List.length_take, h.1, Nat.min_eq_left (Nat.mul_le_mul_right _ hk)], ?_⟩
  rcases h.2 with ⟨hv, _⟩ | ⟨g, cap, cur, hv, hb, hg, h1, h2, h3, h4⟩
  · injection hv with hv _ _
    exact absurd hv hn
  · injection hv with hv1 _ hv3
    subst hv1 hv3
    refine .inr ⟨g, c, cur, rfl, hb, hg, Nat.le_trans hk h1, h2, h3, ?_⟩
    rw [← h4, List.take_take, Nat.min_eq_left (Nat.mul_le_mul_right _ hk)]
end Go.Proofs.YtclahhkcbkpofaaDoor
