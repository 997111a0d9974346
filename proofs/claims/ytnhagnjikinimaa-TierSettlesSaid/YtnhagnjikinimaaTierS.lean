/- Merging what is picked: the plain laws, and the statement's own 'merged'. -/
import Derived.Test.YtnhagnjikinimaaTierL
namespace Go.Proofs.Ytnhagnjikinimaa
open Go.RowKit

def inTake (p : List Int) (i k : Nat) : Bool := decide ((i : Int) ∈ p.take k)
def inP (p : List Int) (i : Nat) : Bool := inTake p i p.length
theorem inTake_zero (p : List Int) (i : Nat) : inTake p i 0 = false := by simp [inTake]
theorem inTake_old {p : List Int} {i k : Nat} (h : inTake p i k = true) : inTake p i (k + 1) = true := by
  unfold inTake at h ⊢
  rw [decide_eq_true_iff] at h ⊢
  exact (List.take_sublist_take_left (Nat.le_succ k)).subset h
theorem inTake_new {p : List Int} {i k : Nat} (hk : k < p.length) (h : inTake p i k = false) : (p[k] == (i : Int)) = inTake p i (k + 1) := by
  unfold inTake at h ⊢
  rw [decide_eq_false_iff_not] at h
  rw [List.take_succ_eq_append_getElem hk]
  rw [Bool.eq_iff_iff, beq_iff_eq, decide_eq_true_iff, List.mem_append, List.mem_singleton]
  exact ⟨fun e => .inr e.symm, fun e => (e.resolve_left h).symm⟩
theorem inP_mem {p : List Int} {i : Nat} : inP p i = true ↔ (i : Int) ∈ p := by simp [inP, inTake]

def keepTo (l : List Seg) (p : List Int) : Nat → List Seg
  | 0 => []
  | k + 1 => keepTo l p k ++ if inP p k then [] else l[k]?.toList
def sumTo (l : List Seg) (p : List Int) : Nat → Int
  | 0 => 0
  | k + 1 => sumTo l p k + if inP p k then liveAt l k else 0
def allTo (l : List Seg) : Nat → Int
  | 0 => 0
  | k + 1 => allTo l k + liveAt l k
def cntTo (p : List Int) : Nat → Nat
  | 0 => 0
  | k + 1 => cntTo p k + if inP p k then 1 else 0
def merged (l : List Seg) (p : List Int) : List Seg := keepTo l p l.length ++ if 0 < sumTo l p l.length then [⟨0, sumTo l p l.length, 0, 0⟩] else []

theorem live_nonneg {l : List Seg} (h : segsOk l = true) (k : Nat) : 0 ≤ liveAt l k ∧ liveAt l k ≤ 1048576 := by
  by_cases hk : k < l.length
  · rw [liveAt_eq hk]
    obtain ⟨a, b, c, d⟩ := seg_ok_at h hk
    omega
  · unfold liveAt
    rw [List.getElem?_eq_none (by omega)]
    simp
theorem sum_le {l : List Seg} (h : segsOk l = true) (p : List Int) : ∀ k, 0 ≤ sumTo l p k ∧ sumTo l p k ≤ allTo l k
  | 0 => ⟨Int.le_refl _, Int.le_refl _⟩
  | k + 1 => by
    have h1 := sum_le h p k
    have h2 := live_nonneg h k
    unfold sumTo allTo
    split <;> omega
theorem all_mono {l : List Seg} (h : segsOk l = true) {k n : Nat} (hk : k ≤ n) : 0 ≤ allTo l k ∧ allTo l k ≤ allTo l n := by
  have nn : ∀ k, 0 ≤ allTo l k := fun k => by have := sum_le h [] k; omega
  refine ⟨nn k, ?_⟩
  obtain ⟨d, rfl⟩ := Nat.exists_eq_add_of_le hk
  clear hk
  induction d with
  | zero => exact Int.le_refl _
  | succ d ih =>
    have := live_nonneg h (k + d)
    rw [← Nat.add_assoc, allTo]
    omega
theorem keep_len {l : List Seg} (p : List Int) : ∀ k, k ≤ l.length → (keepTo l p k).length + cntTo p k = k
  | 0, _ => rfl
  | k + 1, h => by
    have ih := keep_len (l := l) p k (by omega)
    unfold keepTo cntTo
    rw [List.length_append]
    split
    · simp; omega
    · rw [List.getElem?_eq_getElem (l := l) (by omega)]; simp; omega
theorem keep_mem {l : List Seg} {p : List Int} {s : Seg} : ∀ k, s ∈ keepTo l p k → s ∈ l
  | 0, h => by simp [keepTo] at h
  | k + 1, h => by
    unfold keepTo at h
    rcases List.mem_append.1 h with h | h
    · exact keep_mem k h
    · split at h
      · simp at h
      · exact List.mem_of_getElem? (Option.mem_toList.1 h)

/-- The documents that live in all. -/
def liveSum (l : List Seg) : Int := (l.map Seg.live).sum
theorem liveSum_append (a b : List Seg) : liveSum (a ++ b) = liveSum a + liveSum b := by unfold liveSum; rw [List.map_append, List.sum_append]
theorem keep_sum {l : List Seg} (p : List Int) : ∀ k, k ≤ l.length → liveSum (keepTo l p k) + sumTo l p k = allTo l k
  | 0, _ => rfl
  | k + 1, h => by
    have ih := keep_sum (l := l) p k (by omega)
    unfold keepTo sumTo allTo
    rw [liveSum_append]
    have e : liveAt l k = l[k].live := by unfold liveAt; rw [List.getElem?_eq_getElem (l := l) (by omega)]
    split
    · simp only [liveSum, List.map_nil, List.sum_nil] at ih ⊢; omega
    · rw [List.getElem?_eq_getElem (l := l) (by omega)]
      simp only [Option.toList, liveSum, List.map_cons, List.map_nil, List.sum_cons, List.sum_nil] at ih ⊢
      omega
theorem allTo_take (l : List Seg) : ∀ k, k ≤ l.length → allTo l k = liveSum (l.take k)
  | 0, _ => by simp [allTo, liveSum]
  | k + 1, h => by
    rw [allTo, allTo_take l k (by omega), List.take_succ_eq_append_getElem (by omega), liveSum_append]
    have e : liveAt l k = l[k].live := by unfold liveAt; rw [List.getElem?_eq_getElem (l := l) (by omega)]
    rw [e]
    simp [liveSum]
theorem allTo_all (l : List Seg) : allTo l l.length = liveSum l := by rw [allTo_take l _ (Nat.le_refl _), List.take_length]
theorem merged_sum {l : List Seg} (h : segsOk l = true) (p : List Int) : liveSum (merged l p) = liveSum l := by
  have h1 := keep_sum (l := l) p l.length (Nat.le_refl _)
  have h2 := sum_le h p l.length
  rw [allTo_all] at h1
  unfold merged
  rw [liveSum_append]
  split
  · simp only [liveSum, List.map_cons, List.map_nil, List.sum_cons, List.sum_nil, Seg.live] at h1 ⊢; omega
  · simp only [liveSum, List.map_nil, List.sum_nil] at h1 ⊢; omega
theorem merged_ok {l : List Seg} (h : segsOk l = true) (hs : liveSum l ≤ 1048576) (p : List Int) : segsOk (merged l p) = true := by
  have h2 := sum_le h p l.length
  rw [allTo_all] at h2
  unfold segsOk at h ⊢
  rw [List.all_eq_true] at h ⊢
  intro s hm
  unfold merged at hm
  rcases List.mem_append.1 hm with hm | hm
  · exact h s (keep_mem _ hm)
  · split at hm
    · simp only [List.mem_singleton] at hm
      subst hm
      exact (segOk_iff _).2 ⟨by simp; omega, by simp; omega, by simp, by simp; omega⟩
    · simp at hm

theorem cnt_one {p : List Int} {i : Nat} (hi : inP p i = true) : ∀ k, i < k → 1 ≤ cntTo p k
  | 0, h => absurd h (by omega)
  | k + 1, h => by
    unfold cntTo
    by_cases e : i = k
    · subst e; rw [if_pos hi]; omega
    · have := cnt_one hi k (by omega); omega
theorem cnt_two {p : List Int} {i j : Nat} (hi : inP p i = true) (hj : inP p j = true) (hij : i < j) : ∀ k, j < k → 2 ≤ cntTo p k
  | 0, h => absurd h (by omega)
  | k + 1, h => by
    unfold cntTo
    by_cases e : j = k
    · subst e; rw [if_pos hj]; have := cnt_one hi j hij; omega
    · have := cnt_two hi hj hij k (by omega); omega
theorem sum_empty {l : List Seg} {p : List Int} (h : ∀ i : Nat, inP p i = true → emptyQ l i = true) : ∀ k, sumTo l p k = 0
  | 0 => rfl
  | k + 1 => by
    unfold sumTo
    rw [sum_empty h k]
    split
    · rename_i hk
      have := h k hk
      unfold emptyQ at this
      simpa using this
    · rfl
theorem merged_less {l : List Seg} (hp : (pickF l).length ≠ 0) : (merged l (pickF l)).length < l.length := by
  have hg := pick_good l
  have hk := keep_len (l := l) (pickF l) l.length (Nat.le_refl _)
  have h0 : 0 < (pickF l).length := by omega
  obtain ⟨a, ha, hal, hae⟩ := hg.place 0 h0
  have hina : inP (pickF l) a = true := inP_mem.2 (by rw [← ha]; exact List.getElem_mem h0)
  unfold merged
  rw [List.length_append]
  rcases hg.many with ⟨h1, _⟩ | ⟨_, h2⟩
  · have hs : sumTo l (pickF l) l.length = 0 := sum_empty (fun i hi => by
      obtain ⟨q, hq, hqe⟩ := List.getElem_of_mem (inP_mem.1 hi)
      obtain ⟨j, hj, _, hje⟩ := hg.place q hq
      have : j = i := by rw [hqe] at hj; omega
      subst this
      rw [hje]
      simpa using h1) _
    rw [hs]
    have := cnt_one hina l.length hal
    simp
    omega
  · rcases h2 with h2 | h2
    · exact absurd h2 hp
    · obtain ⟨b, hb, hbl, _⟩ := hg.place 1 (by omega)
      have hr := hg.rise 1 (by omega) (by omega)
      have hinb : inP (pickF l) b = true := inP_mem.2 (by rw [← hb]; exact List.getElem_mem _)
      have hab : a < b := by
        have e : (pickF l)[1 - 1] = (a : Int) := ha
        rw [e, hb] at hr
        omega
      have := cnt_two hina hinb hab l.length hbl
      split <;> simp <;> omega
end Go.Proofs.Ytnhagnjikinimaa
