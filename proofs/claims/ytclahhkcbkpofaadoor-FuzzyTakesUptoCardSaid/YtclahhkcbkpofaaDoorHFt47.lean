/- A word's automaton: its ways by characters are its edits (plain Lean). -/
import Derived.Test.YtclahhkcbkpofaaDoorHFt46
import Derived.Test.YtclahhkcbkpofaaDoorHFt45
import Derived.Test.YtclahhkcbkpofaaDoorHFt9
import Derived.Test.YtclahhkcbkpofaaDoorHFt1
namespace Go.Proofs.YtclahhkcbkpofaaDoor
open Sp
/-- The state of a place and of so many edits. -/
def atS (E i k : Nat) : Nat := i * (E + 1) + k
theorem atS_inj {E i k i' k' : Nat} (hk : k ≤ E) (hk' : k' ≤ E) (h : atS E i k = atS E i' k') : i = i' ∧ k = k' := by
  unfold atS at h
  have h1 := div_at (i := i) hk
  have h2 := mod_at (i := i) hk
  rw [h, div_at hk'] at h1
  rw [h, mod_at hk'] at h2
  exact ⟨h1.symm, h2.symm⟩
theorem atS_split {E n x : Nat} (h : x < (n + 1) * (E + 1)) : ∃ i k, i ≤ n ∧ k ≤ E ∧ x = atS E i k := by
  have hW : 0 < E + 1 := by omega
  have hd := Nat.div_add_mod x (E + 1)
  have hm := Nat.mod_lt x hW
  refine ⟨x / (E + 1), x % (E + 1), ?_, by omega, ?_⟩
  · have h1 : x / (E + 1) < n + 1 := Nat.div_lt_of_lt_mul (by rw [Nat.mul_comm]; exact h)
    omega
  · unfold atS
    rw [Nat.mul_comm]
    exact hd.symm
theorem atS_lt {E n i k : Nat} (hi : i ≤ n) (hk : k ≤ E) : atS E i k < (n + 1) * (E + 1) := at_lt hi hk
theorem atS_next {E i k : Nat} : atS E i k + E + 1 = atS E (i + 1) k := by
  unfold atS
  rw [Nat.add_mul, Nat.one_mul]
  omega
theorem atS_next2 {E i k : Nat} : atS E i k + E + 2 = atS E (i + 1) (k + 1) := by
  unfold atS
  rw [Nat.add_mul, Nat.one_mul]
  omega
theorem atS_up {E i k : Nat} : atS E i k + 1 = atS E i (k + 1) := by
  unfold atS
  omega
/-- The ways without a character. -/
def frF (n E X x y : Nat) : Prop := ∃ i k, x = atS E i k ∧ k < E ∧ X ≤ i ∧ i < n ∧ y = atS E (i + 1) (k + 1)
theorem fuz_edge (n E X x : Nat) (t : List Nat) (y : Nat) : edgeL (fuzL n E X ((n + 1) * (E + 1))) x t y ↔ t = [] ∧ frF n E X x y := by
  constructor
  · rintro ⟨s, hs, h⟩
    have hl := (List.getElem?_eq_some_iff.1 hs).1
    rw [fuzL_len] at hl
    obtain ⟨i, k, hi, hk, rfl⟩ := atS_split hl
    rw [fuzL_at hl, if_pos hl] at hs
    injection hs with hs
    have e : fuzSt n E X (atS E i k) = _ := fuzSt_at hk
    rw [e] at hs
    subst hs
    rcases h with ⟨h1, h2⟩ | ⟨_, _, a, h2, _⟩
    · refine ⟨h1, i, k, rfl, ?_⟩
      split at h2
      · rename_i h3
        refine ⟨h3.1, h3.2.1, h3.2.2, ?_⟩
        have h4 := List.mem_singleton.1 h2
        have h5 : y = atS E i k + E + 2 := by unfold atS; omega
        rw [h5, atS_next2]
      · cases h2
    · cases h2
  · rintro ⟨rfl, i, k, rfl, hk, hX, hi, rfl⟩
    have hl := atS_lt (E := E) (n := n) (i := i) (k := k) (by omega) (by omega)
    refine ⟨fuzSt n E X (atS E i k), by rw [fuzL_at hl, if_pos hl], .inl ⟨rfl, ?_⟩⟩
    have e : fuzSt n E X (atS E i k) = _ := fuzSt_at (by omega)
    rw [e, if_pos ⟨hk, hX, hi⟩]
    refine List.mem_singleton.2 ?_
    rw [← atS_next2]
    rfl
/-- The ways with a character. -/
theorem fuzE_mem {f : List Int} {E X : Nat} {e : Ld} : e ∈ fuzE f E X ((f.length + 1) * (E + 1)) ↔ ∃ i k, i ≤ f.length ∧ k ≤ E ∧ ((∃ c, f[i]? = some c ∧ e = (atS E i k, atS E (i + 1) k, c, c)) ∨ (k < E ∧ X ≤ i ∧ e = (atS E i k, atS E i (k + 1), 0, 1114111)) ∨ (k < E ∧ X ≤ i ∧ i < f.length ∧ e = (atS E i k, atS E (i + 1) (k + 1), 0, 1114111))) := by
  have hat : ∀ {i k : Nat}, k ≤ E → edAt f E X (atS E i k) = edA f[i]? (atS E i k) (atS E (i + 1) k) ++ (if k = E ∨ i < X then [] else (atS E i k, atS E i (k + 1), 0, 1114111) :: edB f[i]? (atS E i k) (atS E (i + 1) (k + 1))) := fun {i k} hk => by
    rw [← atS_next, ← atS_next2, ← atS_up]
    exact edAt_at hk
  constructor
  · intro h
    obtain ⟨x, hx, he⟩ := List.mem_flatMap.1 h
    obtain ⟨i, k, hi, hk, rfl⟩ := atS_split (List.mem_range.1 hx)
    refine ⟨i, k, hi, hk, ?_⟩
    rw [hat hk] at he
    rcases List.mem_append.1 he with he | he
    · cases hc : f[i]? with
      | none => rw [hc] at he; cases he
      | some c => rw [hc] at he; exact .inl ⟨c, rfl, List.mem_singleton.1 he⟩
    · split at he
      · cases he
      · rename_i hno
        rcases List.mem_cons.1 he with he | he
        · exact .inr (.inl ⟨by omega, by omega, he⟩)
        · cases hc : f[i]? with
          | none => rw [hc] at he; cases he
          | some c => rw [hc] at he; exact .inr (.inr ⟨by omega, by omega, (List.getElem?_eq_some_iff.1 hc).1, List.mem_singleton.1 he⟩)
  · rintro ⟨i, k, hi, hk, h⟩
    refine List.mem_flatMap.2 ⟨atS E i k, List.mem_range.2 (atS_lt hi hk), ?_⟩
    rw [hat hk]
    rcases h with ⟨c, h1, rfl⟩ | ⟨h1, h2, rfl⟩ | ⟨h1, h2, h3, rfl⟩
    · rw [h1]
      exact List.mem_append_left _ (List.mem_singleton.2 rfl)
    · rw [if_neg (by omega)]
      exact List.mem_append_right _ (List.mem_cons_self ..)
    · rw [if_neg (by omega), List.getElem?_eq_getElem h3]
      exact List.mem_append_right _ (List.mem_cons_of_mem _ (List.mem_singleton.2 rfl))
/-- What is read, by its edits. -/
theorem cw_fw {f : List Int} {E X : Nat} : ∀ {u : List Int}, (∀ c ∈ u, 0 ≤ c ∧ c ≤ 1114111) → ∀ {i k z : Nat}, i ≤ f.length → k ≤ E → (CW (frF f.length E X) (fuzE f E X ((f.length + 1) * (E + 1))) (atS E i k) u z ↔ ∃ j m, z = atS E j (k + m) ∧ k + m ≤ E ∧ Fw f X i u j m) := by
  intro u hu i k z hi hk
  constructor
  · intro h
    have key : ∀ {x z : Nat} {u : List Int}, CW (frF f.length E X) (fuzE f E X ((f.length + 1) * (E + 1))) x u z → ∀ {i k : Nat}, i ≤ f.length → k ≤ E → x = atS E i k → ∃ j m, z = atS E j (k + m) ∧ k + m ≤ E ∧ Fw f X i u j m := by
      intro x z u h
      induction h with
      | nil x =>
        intro i k _ hk e
        exact ⟨i, 0, e, by omega, .nil i⟩
      | free h _ ih =>
        intro i k hi hk e
        obtain ⟨i', k', e1, h1, h2, h3, h4⟩ := h
        obtain ⟨rfl, rfl⟩ := atS_inj hk (by omega) (e.symm.trans e1)
        obtain ⟨j, m, h5, h6, h7⟩ := ih (i := i + 1) (k := k + 1) (by omega) (by omega) h4
        exact ⟨j, m + 1, by rw [h5]; congr 1; omega, by omega, .skip h2 h3 h7⟩
      | @char z e c l he h1 h2 _ ih =>
        intro i k hi hk e0
        obtain ⟨i', k', hi', hk', h⟩ := fuzE_mem.1 he
        rcases h with ⟨d, h3, rfl⟩ | ⟨h3, h4, rfl⟩ | ⟨h3, h4, h5, rfl⟩
        · obtain ⟨rfl, rfl⟩ := atS_inj hk hk' e0.symm
          have h6 := (List.getElem?_eq_some_iff.1 h3).1
          obtain ⟨j, m, h7, h8, h9⟩ := ih (i := i + 1) (k := k) (by omega) hk rfl
          have h1 : d ≤ c := h1
          have h2 : c ≤ d := h2
          obtain rfl : d = c := by omega
          exact ⟨j, m, h7, h8, .eq h3 h9⟩
        · obtain ⟨rfl, rfl⟩ := atS_inj hk hk' e0.symm
          obtain ⟨j, m, h7, h8, h9⟩ := ih (i := i) (k := k + 1) hi (by omega) rfl
          exact ⟨j, m + 1, by rw [h7]; congr 1; omega, by omega, .put h4 h9⟩
        · obtain ⟨rfl, rfl⟩ := atS_inj hk hk' e0.symm
          obtain ⟨j, m, h7, h8, h9⟩ := ih (i := i + 1) (k := k + 1) (by omega) (by omega) rfl
          exact ⟨j, m + 1, by rw [h7]; congr 1; omega, by omega, .sub h4 h5 h9⟩
    exact key h hi hk rfl
  · rintro ⟨j, m, rfl, hm, h⟩
    induction h generalizing k with
    | nil i => exact .nil _
    | @eq i j n c u h r ih =>
      have h6 := (List.getElem?_eq_some_iff.1 h).1
      exact .char (e := (atS E i k, atS E (i + 1) k, c, c)) (fuzE_mem.2 ⟨i, k, hi, hk, .inl ⟨c, h, rfl⟩⟩) (Int.le_refl _) (Int.le_refl _) (ih (fun x hx => hu x (List.mem_cons_of_mem _ hx)) (by omega) hk hm)
    | @put i j n c u h r ih =>
      have hc := hu c (List.mem_cons_self ..)
      have h1 := ih (k := k + 1) (fun x hx => hu x (List.mem_cons_of_mem _ hx)) hi (by omega) (by omega)
      rw [show k + 1 + n = k + (n + 1) by omega] at h1
      exact .char (e := (atS E i k, atS E i (k + 1), 0, 1114111)) (fuzE_mem.2 ⟨i, k, hi, hk, .inr (.inl ⟨by omega, h, rfl⟩)⟩) hc.1 hc.2 h1
    | @sub i j n c u h h' r ih =>
      have hc := hu c (List.mem_cons_self ..)
      have h1 := ih (k := k + 1) (fun x hx => hu x (List.mem_cons_of_mem _ hx)) (by omega) (by omega) (by omega)
      rw [show k + 1 + n = k + (n + 1) by omega] at h1
      exact .char (e := (atS E i k, atS E (i + 1) (k + 1), 0, 1114111)) (fuzE_mem.2 ⟨i, k, hi, hk, .inr (.inr ⟨by omega, h, h', rfl⟩)⟩) hc.1 hc.2 h1
    | @skip i j n u h h' r ih =>
      have h1 := ih (k := k + 1) hu (by omega) (by omega) (by omega)
      rw [show k + 1 + n = k + (n + 1) by omega] at h1
      exact .free ⟨i, k, rfl, by omega, h, h', rfl⟩ h1
end Go.Proofs.YtclahhkcbkpofaaDoor
/- Which texts a word's automaton takes (plain Lean). -/
namespace Go.Proofs.YtclahhkcbkpofaaDoor
open Sp
/-- From a place in the head. -/
theorem fw_head {f : List Int} {X j m : Nat} {u : List Int} (hX : X ≤ f.length) : ∀ {i : Nat}, i ≤ X → (Fw f X i u j m ↔ (i ≤ j ∧ j < X ∧ m = 0 ∧ u = (f.drop i).take (j - i)) ∨ (X ≤ j ∧ ∃ u', u = (f.drop i).take (X - i) ++ u' ∧ Fw f X X u' j m)) := by
  intro i hi
  constructor
  · intro h
    induction h with
    | nil i =>
      by_cases e : i = X
      · subst e
        exact .inr ⟨Nat.le_refl _, [], by simp, .nil _⟩
      · exact .inl ⟨Nat.le_refl _, by omega, rfl, by simp⟩
    | @eq i j n c u h r ih =>
      by_cases e : i = X
      · subst e
        exact .inr ⟨(Fw.le (.eq h r) hX).1, _, by simp, .eq h r⟩
      · obtain ⟨h1, h2⟩ := List.getElem?_eq_some_iff.1 h
        rcases ih (by omega) with ⟨h3, h4, h5, h6⟩ | ⟨h3, u', h4, h5⟩
        · exact .inl ⟨by omega, h4, h5, by rw [cut_step h1 h3, h2, h6]⟩
        · exact .inr ⟨h3, u', by rw [cut_step h1 (show i + 1 ≤ X by omega), h2, h4]; rfl, h5⟩
    | @put i j n c u h r ih =>
      obtain rfl : i = X := by omega
      exact .inr ⟨(r.le hX).1, c :: u, by simp, .put h r⟩
    | @sub i j n c u h h1 r ih =>
      obtain rfl : i = X := by omega
      have := (r.le h1).1
      exact .inr ⟨by omega, c :: u, by simp, .sub h h1 r⟩
    | @skip i j n u h h1 r ih =>
      obtain rfl : i = X := by omega
      have := (r.le h1).1
      exact .inr ⟨by omega, u, by simp, .skip h h1 r⟩
  · have key : ∀ (d : Nat) {i x n : Nat} {v : List Int}, x - i = d → i ≤ x → x ≤ f.length → Fw f X x v j n → Fw f X i ((f.drop i).take (x - i) ++ v) j n := by
      intro d
      induction d with
      | zero =>
        intro i x n v h1 h2 _ h
        obtain rfl : i = x := by omega
        simpa using h
      | succ d ih =>
        intro i x n v h1 h2 h3 h
        rw [cut_step (show i < f.length by omega) (show i + 1 ≤ x by omega)]
        exact .eq (List.getElem?_eq_getElem (by omega)) (ih (by omega) (by omega) h3 h)
    rintro (⟨h1, h2, rfl, rfl⟩ | ⟨h1, u', rfl, h2⟩)
    · have := key (j - i) rfl h1 (by omega) (.nil (f := f) (X := X) j)
      rwa [List.append_nil] at this
    · exact key (X - i) rfl hi hX h2
/-- The head stands, and the rest is near. -/
def nearL (f : List Int) (E X : Nat) (l : List Int) : Prop := ∃ u, l = f.take X ++ u ∧ lev u (f.drop X) ≤ E
theorem fw_near {f : List Int} {E X : Nat} {l : List Int} (hX : X ≤ f.length) : (∃ k, k ≤ E ∧ Fw f X 0 l f.length k) ↔ nearL f E X l := by
  have hfull : (f.drop X).take (f.length - X) = f.drop X := List.take_of_length_le (by rw [List.length_drop]; omega)
  constructor
  · rintro ⟨k, hk, h⟩
    rcases (fw_head hX (Nat.zero_le _)).1 h with ⟨_, h1, _⟩ | ⟨_, u, h1, h2⟩
    · omega
    · refine ⟨u, by simpa using h1, ?_⟩
      obtain ⟨_, _, h3⟩ := (fw_ex (Nat.le_refl X) hX).1 h2
      rw [hfull] at h3
      have := h3.least
      omega
  · rintro ⟨u, rfl, h⟩
    refine ⟨_, h, (fw_head hX (Nat.zero_le _)).2 (.inr ⟨hX, u, by simp, (fw_ex (Nat.le_refl X) hX).2 ⟨hX, Nat.le_refl _, ?_⟩⟩)⟩
    rw [hfull]
    exact ex_lev u (f.drop X)
theorem wholes {l : List Int} {bs : List Nat} (h : Dec bs l) : ∀ c ∈ l, 0 ≤ c ∧ c ≤ 1114111 := fun c hc => by
  have h1 : 0 ≤ c ∧ c ≤ 1114111 ∧ (c < 55296 ∨ 57343 < c) := of_decide_eq_true (h.1 c hc)
  exact ⟨h1.1, h1.2.1⟩
/-- Which texts are taken. -/
theorem fuz_takes {f : List Int} {E X : Nat} (hX : X ≤ f.length) {t : List UInt8} {l : List Int} (hd : Dec (bytesN t) l) : looseTakes (fuzA f E X) t = true ↔ nearL f E X l := by
  have hN : (fuzL f.length E X ((f.length + 1) * (E + 1))).length = (f.length + 1) * (E + 1) := fuzL_len _ _ _ _
  have hNp : 0 < (f.length + 1) * (E + 1) := Nat.mul_pos (by omega) (by omega)
  have hin : InE (edgeL (fuzL f.length E X ((f.length + 1) * (E + 1)))) (fuzL f.length E X ((f.length + 1) * (E + 1))).length := fun x t y h => by
    obtain ⟨_, i, k, rfl, h1, h2, h3, rfl⟩ := (fuz_edge _ _ _ _ _ _).1 h
    rw [hN]
    exact ⟨atS_lt (by omega) (by omega), atS_lt (by omega) (by omega)⟩
  have h : looseTakes (fuzA f E X) t = true ↔ ∃ z s, (fuzA f E X)[z]? = some s ∧ s.fin = true ∧ Way (edgeL (fuzA f E X)) 0 (bytesN t) z := takes_way
  have hw : ∀ z, z < (f.length + 1) * (E + 1) → (Way (edgeL (fuzA f E X)) 0 (bytesN t) z ↔ CW (frF f.length E X) (fuzE f E X ((f.length + 1) * (E + 1))) 0 l z) := fun z hz => by
    unfold fuzA
    rw [← noE_way, leads_way _ _ noE (fuzE_ok f E X) hin (noE_in _) (by rw [hN]; exact hNp) (by rw [hN]; exact hz), orE_no, hd.2, cw_iff (fuz_edge _ _ _) hd.1]
  have hc : ∀ z, CW (frF f.length E X) (fuzE f E X ((f.length + 1) * (E + 1))) 0 l z ↔ ∃ j m, z = atS E j (0 + m) ∧ 0 + m ≤ E ∧ Fw f X 0 l j m := fun z => by
    have := cw_fw (f := f) (E := E) (X := X) (wholes hd) (i := 0) (k := 0) (z := z) (Nat.zero_le _) (Nat.zero_le _)
    rw [show atS E 0 0 = 0 by unfold atS; omega] at this
    exact this
  rw [h, ← fw_near hX]
  constructor
  · rintro ⟨z, s, h1, h2, h3⟩
    obtain ⟨s', h4, h5⟩ := (leads_fin (fuzE f E X ((f.length + 1) * (E + 1))) (fuzL f.length E X ((f.length + 1) * (E + 1))) (z := z)).1 ⟨s, h1, h2⟩
    have hz := (List.getElem?_eq_some_iff.1 h4).1
    rw [hN] at hz
    obtain ⟨j, m, rfl, h6, h7⟩ := (hc z).1 ((hw z hz).1 h3)
    rw [fuzL_at hz, if_pos hz] at h4
    injection h4 with h4
    have e : fuzSt f.length E X (atS E j (0 + m)) = _ := fuzSt_at h6
    rw [e] at h4
    rw [← h4] at h5
    have h5 := of_decide_eq_true h5
    subst h5
    exact ⟨m, by omega, h7⟩
  · rintro ⟨k, hk, h1⟩
    have hz := atS_lt (E := E) (n := f.length) (i := f.length) (k := k) (Nat.le_refl _) hk
    have e : fuzSt f.length E X (atS E f.length k) = _ := fuzSt_at hk
    obtain ⟨s, h4, h5⟩ := (leads_fin (fuzE f E X ((f.length + 1) * (E + 1))) (fuzL f.length E X ((f.length + 1) * (E + 1))) (z := atS E f.length k)).2 ⟨_, by rw [fuzL_at hz, if_pos hz, e], decide_eq_true rfl⟩
    exact ⟨_, s, h4, h5, (hw _ hz).2 ((hc _).2 ⟨_, k, by rw [Nat.zero_add], by omega, h1⟩)⟩
end Go.Proofs.YtclahhkcbkpofaaDoor
/- The reference's Begins: does a list begin with another one? -/
namespace Go.Proofs.YtclahhkcbkpofaaDoor
open Go.RowKit
set_option linter.unusedVariables false
theorem pre_none {l h : List Int} {j : Nat} (hj : j < h.length) (hl : l.length ≤ j) : decide (h <+: l) = false := by
  rw [decide_eq_false_iff_not]
  intro e
  have := e.length_le
  omega
theorem pre_diff {l h : List Int} {j : Nat} {a b : Int} (ha : l[j]? = some a) (hb : h[j]? = some b) (hab : a ≠ b) : decide (h <+: l) = false := by
  rw [decide_eq_false_iff_not]
  rintro ⟨r, e⟩
  have h1 := (List.getElem?_eq_some_iff.1 hb).1
  rw [← e, List.getElem?_append_left h1, hb] at ha
  injection ha with ha
  exact hab ha.symm
theorem pre_step {l h : List Int} {j : Nat} {a : Int} (hp : h.take j <+: l) (ha : l[j]? = some a) (hb : h[j]? = some a) : h.take (j + 1) <+: l := by
  obtain ⟨h1, e1⟩ := List.getElem?_eq_some_iff.1 hb
  obtain ⟨h2, e2⟩ := List.getElem?_eq_some_iff.1 ha
  have h3 : (h.take j).length = j := by rw [List.length_take]; omega
  have e3 := List.prefix_iff_eq_take.1 hp
  rw [h3] at e3
  rw [List.take_succ_eq_append_getElem h1, e1, e3, ← e2, ← List.take_succ_eq_append_getElem h2]
  exact List.take_prefix _ _
set_option maxRecDepth 100000 in
set_option maxHeartbeats 8000000 in
theorem begins_any (w : World) (B : Nat) (hB : B ≤ w.heap.size) (A1 A2 : Option Addr) (n1 n2 c1 c2 : Nat) (l h : List Int) (h1 : Sl w B 1 A1 n1 (l.map (.int .i64))) (h2 : Sl w B 1 A2 n2 (h.map (.int .i64))) (hn1 : n1 ≤ 17592186044416) (hn2 : n2 ≤ 1000000) :
    Calls Tryd.prog 30 #[.slice A1 n1 c1, .slice A2 n2 c2] w fun e w' => e = .returned (.bool (decide (h <+: l))) ∧ Below w.heap.size w w' := by
  have HL1 : Hid (l.length = n1) := by have := h1.1; show _ = _; simpa using this
  have HL2 : Hid (h.length = n2) := by have := h2.1; show _ = _; simpa using this
  have HS1 := Lib.hid h1
  have HS2 := Lib.hid h2
  clear h1 h2
  go_enter Tryd.func30, Tryd.ntmps30
  go_wp2_with fail
  go_loopw [5] (fun iv wr => ∃ j : Nat, j ≤ n2 ∧ iv = .int .i64 (j : Int) ∧ Hid (Below w.heap.size w wr) ∧ Hid (h.take j <+: l)) (fun iv _ => n2 - (intOf iv).toNat)
  case atStart => exact ⟨0, Nat.zero_le _, rfl, brefl w, Lib.hid (by simp)⟩
  case round =>
    obtain ⟨j, hj, rfl, HB, HP⟩ := hrel
    by_cases hjn : j < n2
    · have hq : decide (j < n2) = true := decide_eq_true hjn
      obtain ⟨b, hb⟩ : ∃ b, h[j]? = some b := ⟨h[j]'(by rw [HL2.out]; exact hjn), List.getElem?_eq_getElem _⟩
      by_cases hjl : j < n1
      · obtain ⟨a, ha⟩ : ∃ a, l[j]? = some a := ⟨l[j]'(by rw [HL1.out]; exact hjl), List.getElem?_eq_getElem _⟩
        obtain ⟨g1, o1, rfl, hg1, k1⟩ := (HS1.out.below (HB.out.mono hB)).at_ hjl
        obtain ⟨g2, o2, rfl, hg2, k2⟩ := (HS2.out.below (HB.out.mono hB)).at_ hjn
        have r1 := k1 j (.int .i64 a) (by rw [List.getElem?_map, ha]; rfl)
        have r2 := k2 j (.int .i64 b) (by rw [List.getElem?_map, hb]; rfl)
        have b1 : g1 < wr.heap.size := Nat.lt_of_lt_of_le hg1 (Nat.le_trans hB HB.out.size)
        have b2 : g2 < wr.heap.size := Nat.lt_of_lt_of_le hg2 (Nat.le_trans hB HB.out.size)
        have p1 : decide ((j : Int) ≥ (n1 : Int)) = false := decide_eq_false (by omega)
        have p2 : decide (j ≥ n1) = false := decide_eq_false (by omega)
        have p3 : decide (n1 ≤ j) = false := decide_eq_false (by omega)
        by_cases hab : a = b
        · subst hab
          have HPN := Lib.hid (pre_step HP.out ha hb)
          have hne : (a != a) = false := by simp
          clear k1 k2 ha hb
          go_wp2_with fail
          go_region
          go_wp2_with fail
          go_roundw
          case rel => exact ⟨j + 1, by omega, by go_num, HB.out.drew, HPN⟩
          case measure => simp [intOf]; omega
        · have HF := Lib.hid (pre_diff ha hb hab)
          have hne : (a != b) = true := by rw [bne_iff_ne]; exact hab
          clear k1 k2 ha hb hab
          go_wp2_with fail
          go_region
          go_wp2_with fail
          go_ret
          exact ⟨by rw [HF.out]; rfl, HB.out.drew⟩
      · have HF := Lib.hid (pre_none (l := l) (h := h) (j := j) (by rw [HL2.out]; exact hjn) (by rw [HL1.out]; omega))
        have p1 : decide ((j : Int) ≥ (n1 : Int)) = true := decide_eq_true (by omega)
        have p2 : decide (j ≥ n1) = true := decide_eq_true (by omega)
        have p3 : decide (n1 ≤ j) = true := decide_eq_true (by omega)
        clear hb
        go_wp2_with fail
        go_region
        go_wp2_with fail
        go_ret
        exact ⟨by rw [HF.out]; rfl, HB.out.drew⟩
    · obtain rfl : j = n2 := by omega
      have hq : decide (j < j) = false := decide_eq_false hjn
      have HT : Hid (decide (h <+: l) = true) := by
        have := HP.out
        rw [← HL2.out, List.take_length] at this
        exact decide_eq_true this
      go_wp2_with fail
      go_ret
      exact ⟨by rw [HT.out]; rfl, HB.out⟩
end Go.Proofs.YtclahhkcbkpofaaDoor
