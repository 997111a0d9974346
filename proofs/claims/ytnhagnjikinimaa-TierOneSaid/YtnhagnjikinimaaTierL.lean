/- What is picked: places that rise, all empty or four of one tier. -/
import Derived.Test.YtnhagnjikinimaaTierK
namespace Go.Proofs.Ytnhagnjikinimaa
open Go.RowKit

theorem mem_idxs {q : Nat → Bool} {n : Nat} {x : Int} (h : x ∈ idxs q n) : ∃ j : Nat, x = (j : Int) ∧ j < n ∧ q j = true := by
  unfold idxs at h
  obtain ⟨j, hj, rfl⟩ := List.mem_map.1 h
  obtain ⟨h1, h2⟩ := List.mem_filter.1 hj
  exact ⟨j, rfl, List.mem_range.1 h1, h2⟩
theorem idxs_has {q : Nat → Bool} {n j : Nat} (hj : j < n) (hq : q j = true) : 0 < (idxs q n).length := by
  unfold idxs
  rw [List.length_map]
  exact List.length_pos_of_mem (List.mem_filter.2 ⟨List.mem_range.2 hj, hq⟩)
theorem idxs_rise (q : Nat → Bool) (n : Nat) : (idxs q n).Pairwise (· < ·) := by
  unfold idxs
  rw [List.pairwise_map]
  refine List.Pairwise.imp ?_ (List.Pairwise.filter q List.pairwise_lt_range)
  intro a b h
  omega

def EmptyN (l : List Seg) (k : Nat) : Nat := (idxs (emptyQ l) k).length
structure PickGood (l : List Seg) (p : List Int) : Prop where
  place : ∀ i, ∀ h : i < p.length, ∃ j : Nat, p[i] = (j : Int) ∧ j < l.length ∧ emptyQ l j = decide (0 < EmptyN l l.length)
  rise : ∀ i, ∀ h : i < p.length, 0 < i → p[i - 1] < p[i]
  tier : EmptyN l l.length = 0 → ∃ t : Nat, ∀ i, ∀ h : i < p.length, ∀ j : Nat, p[i] = (j : Int) → tierN (liveAt l j) = t
  many : (0 < EmptyN l l.length ∧ p.length = EmptyN l l.length) ∨ (EmptyN l l.length = 0 ∧ (p.length = 0 ∨ p.length = 4))

theorem rise_at {p : List Int} (h : p.Pairwise (· < ·)) : ∀ i, ∀ hi : i < p.length, 0 < i → p[i - 1] < p[i] := fun i hi h0 =>
  List.pairwise_iff_getElem.1 h (i - 1) i (by omega) hi (by omega)

theorem pick_good (l : List Seg) : PickGood l (pickF l) := by
  by_cases hE : 0 < (idxs (emptyQ l) l.length).length
  · rw [pickF_empty hE]
    refine ⟨fun i h => ?_, rise_at (idxs_rise _ _), fun h0 => absurd h0 (by unfold EmptyN; omega), .inl ⟨hE, rfl⟩⟩
    obtain ⟨j, hj, hlt, hq⟩ := mem_idxs (List.getElem_mem h)
    exact ⟨j, hj, hlt, by rw [hq]; exact (decide_eq_true hE).symm⟩
  · have hno : ∀ j, j < l.length → emptyQ l j = decide (0 < EmptyN l l.length) := fun j hj => by
      have h0 : decide (0 < EmptyN l l.length) = false := by rw [decide_eq_false_iff_not]; exact hE
      rw [h0, Bool.eq_false_iff]
      intro hq
      exact hE (idxs_has hj hq)
    have h0 : EmptyN l l.length = 0 := by unfold EmptyN; omega
    by_cases hN : NoTier l 21
    · rw [pickF_none hE hN]
      exact ⟨fun i h => absurd h (by simp), fun i h => absurd h (by simp), fun _ => ⟨0, fun i h => absurd h (by simp)⟩, .inr ⟨h0, .inl rfl⟩⟩
    · have hex : ∃ t, t < 21 ∧ NoTier l t ∧ 4 ≤ (idxs (tierQ l t) l.length).length := by
        have key : ∀ m, m ≤ 21 → NoTier l m ∨ ∃ t, t < m ∧ NoTier l t ∧ 4 ≤ (idxs (tierQ l t) l.length).length := by
          intro m
          induction m with
          | zero => exact fun _ => .inl fun s hs => absurd hs (by omega)
          | succ m ih =>
            intro hm
            rcases ih (by omega) with h | ⟨t, h1, h2, h3⟩
            · by_cases h4 : 4 ≤ (idxs (tierQ l m) l.length).length
              · exact .inr ⟨m, by omega, h, h4⟩
              · exact .inl (noTier_succ h (by omega))
            · exact .inr ⟨t, by omega, h2, h3⟩
        rcases key 21 (by omega) with h | ⟨t, h1, h2, h3⟩
        · exact absurd h hN
        · exact ⟨t, h1, h2, h3⟩
      obtain ⟨t, ht, hnt, h4⟩ := hex
      rw [pickF_tier hE ht hnt h4]
      have hmem : ∀ i, ∀ h : i < ((idxs (tierQ l t) l.length).take 4).length, ∃ j : Nat, ((idxs (tierQ l t) l.length).take 4)[i] = (j : Int) ∧ j < l.length ∧ tierQ l t j = true := fun i h => mem_idxs (List.mem_of_mem_take (List.getElem_mem h))
      refine ⟨fun i h => ?_, rise_at ((idxs_rise _ _).sublist (List.take_sublist _ _)), fun _ => ⟨t, fun i h j hj => ?_⟩, .inr ⟨h0, .inr (by rw [List.length_take]; omega)⟩⟩
      · obtain ⟨j, hj, hlt, _⟩ := hmem i h
        exact ⟨j, hj, hlt, hno j hlt⟩
      · obtain ⟨j', hj', _, hq⟩ := hmem i h
        have : j' = j := by have := hj'.symm.trans hj; omega
        subst this
        unfold tierQ at hq
        simp at hq
        omega
end Go.Proofs.Ytnhagnjikinimaa
