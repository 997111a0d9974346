/- The states in the midst of rows: which texts lead there (plain Lean). -/
import Derived.Test.YtclahhkcbkpofaaDoorHWd17
import Derived.Test.YtclahhkcbkpofaaDoorHWd16
import Derived.Test.YtclahhkcbkpofaaDoorHWd11
namespace Go.Proofs.YtclahhkcbkpofaaDoor
theorem Way.snoc_ind {E : Edge} {x : Nat} {motive : Nat → List Nat → Prop} (h0 : motive x []) (hs : ∀ y t u z, Way E x t y → motive y t → E y u z → motive z (t ++ u)) {y : Nat} {t : List Nat} (h : Way E x t y) : motive y t := by
  have key : ∀ {v y : Nat} {t : List Nat}, Way E v t y → ∀ t0, Way E x t0 v → motive v t0 → motive y (t0 ++ t) := by
    intro v y t h
    induction h with
    | nil => intro t0 _ hm; rwa [List.append_nil]
    | cons h1 _ ih =>
      intro t0 hw hm
      rw [← List.append_assoc]
      exact ih _ (hw.trans (.one h1)) (hs _ _ _ _ hw hm h1)
  exact key h [] (.nil _) h0
/-- The edges of a row's chain: the new states stand from N on. -/
def chainE : Nat → Nat → Nat → List (Int × Int) → Edge
  | _, _, _, [] => fun _ _ _ => False
  | _, a, b, [p] => oneE a b fun t => ∃ c : Nat, t = [c] ∧ p.1 ≤ (c : Int) ∧ (c : Int) ≤ p.2
  | N, a, b, p :: q :: r => orE (oneE a N fun t => ∃ c : Nat, t = [c] ∧ p.1 ≤ (c : Int) ∧ (c : Int) ≤ p.2) (chainE (N + 1) N b (q :: r))
theorem leadRow_edge : ∀ (r : List (Int × Int)) (l : List Lst) (a b : Nat), a < l.length → ∀ x t y, edgeL (leadRow l a b r) x t y ↔ orE (edgeL l) (chainE l.length a b r) x t y
  | [], l, a, b, _, x, t, y => ⟨.inl, fun h => h.elim id False.elim⟩
  | [p], l, a, b, ha, x, t, y => addArc_edge ha x t y
  | p :: q :: r, l, a, b, ha, x, t, y => by
    rw [leadRow, chainE]
    have hlen : (addArc (l ++ [⟨false, [], []⟩]) a (p.1, p.2, (l.length : Int))).length = l.length + 1 := by rw [addArc_len, List.length_append]; rfl
    rw [leadRow_edge (q :: r) _ l.length b (by rw [hlen]; omega), hlen]
    show edgeL _ x t y ∨ _ ↔ edgeL l x t y ∨ (_ ∨ _)
    rw [addArc_edge (by rw [List.length_append]; omega)]
    have := @bare_edge l x t y
    unfold orE
    rw [this, or_assoc]
def chainsE : Nat → Nat → Nat → List (List (Int × Int)) → Edge
  | _, _, _, [] => fun _ _ _ => False
  | N, a, b, r :: rs => orE (chainE N a b r) (chainsE (N + (r.length - 1)) a b rs)
theorem leadRows_edge : ∀ (rs : List (List (Int × Int))) (l : List Lst) (a b : Nat), a < l.length → ∀ x t y, edgeL (leadRows l a b rs) x t y ↔ orE (edgeL l) (chainsE l.length a b rs) x t y
  | [], l, a, b, _, x, t, y => ⟨.inl, fun h => h.elim id False.elim⟩
  | r :: rs, l, a, b, ha, x, t, y => by
    have hlen := leadRow_len r l a b
    show edgeL (leadRows (leadRow l a b r) a b rs) x t y ↔ _
    rw [leadRows_edge rs _ a b (by omega), chainsE]
    unfold orE
    rw [leadRow_edge r l a b ha, hlen]
    unfold orE
    rw [or_assoc]
def midsN : List (List (Int × Int)) → Nat
  | [] => 0
  | r :: rs => (r.length - 1) + midsN rs
theorem leadRows_len : ∀ (rs : List (List (Int × Int))) (l : List Lst) (a b : Nat), (leadRows l a b rs).length = l.length + midsN rs
  | [], l, a, b => rfl
  | r :: rs, l, a, b => by
    show (leadRows (leadRow l a b r) a b rs).length = _
    rw [leadRows_len rs, leadRow_len, midsN]
    omega
theorem leadRows_in : ∀ (rs : List (List (Int × Int))) (l : List Lst) (a b : Nat), a < l.length → b < l.length → InE (edgeL l) l.length → InE (edgeL (leadRows l a b rs)) (leadRows l a b rs).length
  | [], l, a, b, _, _, hl => hl
  | r :: rs, l, a, b, ha, hb, hl => by
    have hlen := leadRow_len r l a b
    exact leadRows_in rs (leadRow l a b r) a b (by omega) (by omega) (leadRow_in r l a b ha hb hl)
/-- A text leads as far as a state in the midst of a row (from N on). -/
def midP (N : Nat) (r : List (Int × Int)) (u : List Nat) (y : Nat) : Prop := 0 < u.length ∧ u.length < r.length ∧ y + 1 = N + u.length ∧ fitN (r.take u.length) u
def midsP : Nat → List (List (Int × Int)) → List Nat → Nat → Prop
  | _, [], _, _ => False
  | N, r :: rs, u, y => midP N r u y ∨ midsP (N + (r.length - 1)) rs u y
theorem fitN_len : ∀ {r : List (Int × Int)} {u : List Nat}, fitN r u → r.length = u.length
  | [], [], _ => rfl
  | _ :: _, _ :: _, h => by rw [List.length_cons, List.length_cons, fitN_len h.2.2]
  | [], _ :: _, h => h.elim
  | _ :: _, [], h => h.elim
theorem fitN_snoc : ∀ {r : List (Int × Int)} {u : List Nat} {p : Int × Int} {c : Nat}, fitN r u → p.1 ≤ (c : Int) → (c : Int) ≤ p.2 → fitN (r ++ [p]) (u ++ [c])
  | [], [], _, _, _, h1, h2 => ⟨h1, h2, trivial⟩
  | _ :: _, _ :: _, _, _, h, h1, h2 => ⟨h.1, h.2.1, fitN_snoc h.2.2 h1 h2⟩
  | [], _ :: _, _, _, h, _, _ => h.elim
  | _ :: _, [], _, _, h, _, _ => h.elim
/-- The edges of a chain, one by one. -/
theorem chain_in : ∀ {r : List (Int × Int)} {N a b : Nat} {x y : Nat} {t : List Nat}, chainE N a b r x t y → ∃ (i : Nat) (p : Int × Int) (c : Nat), r[i]? = some p ∧ t = [c] ∧ p.1 ≤ (c : Int) ∧ (c : Int) ≤ p.2 ∧ (if i = 0 then x = a else x + 1 = N + i) ∧ (if i + 1 = r.length then y = b else y = N + i)
  | [], _, _, _, _, _, _, h => h.elim
  | [p], N, a, b, x, y, t, h => by
    obtain ⟨rfl, rfl, c, rfl, h1, h2⟩ := h
    exact ⟨0, p, c, rfl, rfl, h1, h2, rfl, rfl⟩
  | p :: q :: r, N, a, b, x, y, t, h => by
    rcases h with ⟨rfl, rfl, c, rfl, h1, h2⟩ | h
    · refine ⟨0, p, c, rfl, rfl, h1, h2, rfl, ?_⟩
      rw [if_neg (by simp)]
      rfl
    · obtain ⟨i, p', c, h3, h4, h5, h6, h7, h8⟩ := chain_in h
      refine ⟨i + 1, p', c, h3, h4, h5, h6, ?_, ?_⟩
      · rw [if_neg (by omega)]
        split at h7
        · omega
        · omega
      · rw [List.length_cons] at h8 ⊢
        split at h8
        · rw [if_pos (by simp at *; omega)]; exact h8
        · rw [if_neg (by simp at *; omega)]; omega
theorem chain_out : ∀ {r : List (Int × Int)} {N a b : Nat} {i : Nat} {p : Int × Int} {c x y : Nat}, r[i]? = some p → p.1 ≤ (c : Int) → (c : Int) ≤ p.2 → (if i = 0 then x = a else x + 1 = N + i) → (if i + 1 = r.length then y = b else y = N + i) → chainE N a b r x [c] y
  | [], _, _, _, _, _, _, _, _, h, _, _, _, _ => by simp at h
  | [q], N, a, b, i, p, c, x, y, h, h1, h2, h3, h4 => by
    have hi : i = 0 := by have := (List.getElem?_eq_some_iff.1 h).1; simp at this; omega
    subst hi
    simp at h
    subst h
    exact ⟨h3, h4, c, rfl, h1, h2⟩
  | q :: q' :: r, N, a, b, i, p, c, x, y, h, h1, h2, h3, h4 => by
    cases i with
    | zero =>
      simp at h
      subst h
      rw [if_neg (by simp)] at h4
      exact .inl ⟨h3, h4, c, rfl, h1, h2⟩
    | succ i =>
      refine .inr (chain_out (i := i) (p := p) (by simpa using h) h1 h2 ?_ ?_)
      · rw [if_neg (by omega)] at h3
        split <;> omega
      · rw [List.length_cons] at h4
        split at h4
        · rw [if_pos (by omega)]; exact h4
        · rw [if_neg (by omega)]; omega
theorem midsP_in : ∀ {rs : List (List (Int × Int))} {N : Nat} {u : List Nat} {y : Nat}, midsP N rs u y → N ≤ y ∧ y < N + midsN rs
  | [], _, _, _, h => h.elim
  | r :: rs, N, u, y, h => by
    rw [midsN]
    rcases h with ⟨h1, h2, h3, _⟩ | h
    · omega
    · have := midsP_in h
      omega
theorem chains_mid : ∀ {rs : List (List (Int × Int))} {N a b x y : Nat} {t : List Nat}, a < N → b < N → chainsE N a b rs x t y → N ≤ y → (x = a ∧ midsP N rs t y) ∨ (N ≤ x ∧ ∀ u, midsP N rs u x → midsP N rs (u ++ t) y)
  | [], _, _, _, _, _, _, _, _, h, _ => h.elim
  | r :: rs, N, a, b, x, y, t, ha, hb, h, hy => by
    rcases h with h | h
    · obtain ⟨i, p, c, h1, rfl, h3, h4, h5, h6⟩ := chain_in h
      have hil := (List.getElem?_eq_some_iff.1 h1).1
      have hne : ¬ i + 1 = r.length := fun e => by rw [if_pos e] at h6; omega
      rw [if_neg hne] at h6
      by_cases e : i = 0
      · subst e
        rw [if_pos rfl] at h5
        refine .inl ⟨h5, .inl ⟨by simp, by simp; omega, by simp; omega, ?_⟩⟩
        have e1 : r.take [c].length = [p] := by
          show r.take 1 = [p]
          rw [List.take_add_one, List.take_zero, h1]
          rfl
        rw [e1]
        exact ⟨h3, h4, trivial⟩
      · rw [if_neg e] at h5
        refine .inr ⟨by omega, fun u hu => ?_⟩
        rcases hu with ⟨k1, k2, k3, k4⟩ | hu
        · have hul : u.length = i := by omega
          refine .inl ⟨by simp, by simp; omega, by simp; omega, ?_⟩
          rw [List.length_append, List.length_singleton, hul, List.take_add_one, h1]
          rw [hul] at k4
          exact fitN_snoc k4 h3 h4
        · have := midsP_in hu
          omega
    · by_cases hyr : N + (r.length - 1) ≤ y
      · rcases chains_mid (N := N + (r.length - 1)) (by omega) (by omega) h hyr with ⟨h1, h2⟩ | ⟨h1, h2⟩
        · exact .inl ⟨h1, .inr h2⟩
        · refine .inr ⟨by omega, fun u hu => ?_⟩
          rcases hu with ⟨k1, k2, k3, _⟩ | hu
          · omega
          · exact .inr (h2 u hu)
      · exfalso
        have key : ∀ {rs : List (List (Int × Int))} {M x y : Nat} {t : List Nat}, chainsE M a b rs x t y → y = b ∨ M ≤ y := by
          intro rs
          induction rs with
          | nil => intro M x y t h; exact h.elim
          | cons r rs ih =>
            intro M x y t h
            rcases h with h | h
            · obtain ⟨i, p, c, h1, _, _, _, _, h6⟩ := chain_in h
              split at h6
              · exact .inl h6
              · exact .inr (by omega)
            · rcases ih h with h | h
              · exact .inl h
              · exact .inr (by omega)
        rcases key h with h | h <;> omega
/-- Which texts lead into the midst of rows. -/
theorem mids_way {l : List Lst} {a b : Nat} {rs : List (List (Int × Int))} {X : Edge} (ha : a < l.length) (hb : b < l.length) (hl : InE (edgeL l) l.length) (hX : InE X l.length) {x y : Nat} {t : List Nat} (hx : x < l.length) (hy : l.length ≤ y) :
    Way (orE (edgeL (leadRows l a b rs)) X) x t y ↔ ∃ t' u, t = t' ++ u ∧ Way (orE (edgeL (leadRows l a b rs)) X) x t' a ∧ midsP l.length rs u y := by
  constructor
  · intro h
    refine Way.snoc_ind (motive := fun y t => l.length ≤ y → ∃ t' u, t = t' ++ u ∧ Way (orE (edgeL (leadRows l a b rs)) X) x t' a ∧ midsP l.length rs u y) (fun h => by omega) (fun v t u z hw ih he hz => ?_) h hy
    rcases he with he | he
    · rcases (leadRows_edge rs l a b ha _ _ _).1 he with he | he
      · have := (hl _ _ _ he).2
        omega
      · rcases chains_mid ha hb he hz with ⟨rfl, hm⟩ | ⟨hv, hm⟩
        · exact ⟨t, u, rfl, hw, hm⟩
        · obtain ⟨t', u', rfl, h1, h2⟩ := ih hv
          exact ⟨t', u' ++ u, by rw [List.append_assoc], h1, hm u' h2⟩
    · have := (hX _ _ _ he).2
      omega
  · rintro ⟨t', u, rfl, hw, hm⟩
    refine hw.trans ?_
    have key : ∀ {rs' : List (List (Int × Int))} {N : Nat} {u : List Nat} {y : Nat}, midsP N rs' u y → Way (chainsE N a b rs') a u y := by
      intro rs'
      induction rs' with
      | nil => intro N u y h; exact h.elim
      | cons r rs' ih =>
        intro N u y h
        rcases h with ⟨k1, k2, k3, k4⟩ | h
        · refine Way.mono (fun _ _ _ h => .inl h) ?_
          have hk : ∀ (n : Nat) (u : List Nat) (y : Nat), u.length = n → 0 < n → n < r.length → y + 1 = N + n → fitN (r.take n) u → Way (chainE N a b r) a u y := by
            intro n
            induction n with
            | zero => intro u y _ h0; omega
            | succ n ihn =>
              intro u y hu h0 hr hyn hf
              obtain ⟨p, hp⟩ : ∃ p, r[n]? = some p := ⟨r[n]'(by omega), List.getElem?_eq_getElem _⟩
              rw [List.take_add_one, hp] at hf
              have hf : fitN (r.take n ++ [p]) u := hf
              obtain ⟨u', c, rfl⟩ : ∃ u' c, u = u' ++ [c] := ⟨u.dropLast, u.getLast (by intro e; rw [e] at hu; cases hu), (List.dropLast_concat_getLast _).symm⟩
              rw [List.length_append, List.length_singleton] at hu
              have hsp : ∀ {q : List (Int × Int)} {v : List Nat}, q.length = v.length → fitN (q ++ [p]) (v ++ [c]) → fitN q v ∧ p.1 ≤ (c : Int) ∧ (c : Int) ≤ p.2 := by
                intro q
                induction q with
                | nil =>
                  intro v hv h
                  cases v with
                  | nil => exact ⟨trivial, h.1, h.2.1⟩
                  | cons _ _ => cases hv
                | cons q0 q ihq =>
                  intro v hv h
                  cases v with
                  | nil => cases hv
                  | cons v0 v =>
                    obtain ⟨i1, i2⟩ := ihq (by simpa using hv) h.2.2
                    exact ⟨⟨h.1, h.2.1, i1⟩, i2⟩
              obtain ⟨hf1, hf2, hf3⟩ := hsp (by rw [List.length_take]; omega) hf
              by_cases hn0 : n = 0
              · subst hn0
                have : u' = [] := List.eq_nil_of_length_eq_zero (by omega)
                subst this
                exact .one (chain_out hp hf2 hf3 (by rw [if_pos rfl]) (by rw [if_neg (by omega)]; omega))
              · have h1 := ihn u' (y - 1) (by omega) (by omega) (by omega) (by omega) hf1
                refine h1.trans (.one (chain_out hp hf2 hf3 ?_ ?_))
                · rw [if_neg hn0]; omega
                · rw [if_neg (by omega)]; omega
          exact hk u.length u y rfl k1 k2 k3 k4
        · exact Way.mono (fun _ _ _ h => .inr h) (ih h)
    exact Way.mono (fun x t y h => .inl ((leadRows_edge rs l a b ha x t y).2 (.inr h))) (key hm)
end Go.Proofs.YtclahhkcbkpofaaDoor
/- The fixed automaton of awake, in plain Lean. -/
namespace Go.Proofs.YtclahhkcbkpofaaDoor
open Go.RowKit
def lAw : List Lst := [⟨false, [(97, 98, 0)], [1]⟩, ⟨false, [(99, 99, 2)], []⟩, ⟨true, [], []⟩]
/-! ### What it takes -/
theorem clo0 (x : Nat) : Clo lAw (fun x => x = 0) x ↔ x = 0 ∨ x = 1 := by
  constructor
  · intro h
    induction h with
    | base h => exact .inl h
    | @step y x s _ hs hx ih =>
      rcases ih with rfl | rfl
      · simp [lAw] at hs
        subst hs
        simp at hx
        omega
      · simp [lAw] at hs
        subst hs
        simp at hx
  · rintro (rfl | rfl)
    · exact .base rfl
    · exact .step (y := 0) (s := ⟨false, [(97, 98, 0)], [1]⟩) (.base rfl) rfl (by simp)
noncomputable def aS0 : List Int := setL 3 (Clo lAw fun x => x = 0)
theorem mem0 (z : Int) : z ∈ aS0 ↔ z = 0 ∨ z = 1 := by
  unfold aS0
  rw [setL_mem]
  constructor
  · rintro ⟨x, rfl, _, h⟩
    rcases (clo0 x).1 h with rfl | rfl <;> simp
  · rintro (rfl | rfl)
    · exact ⟨0, rfl, by omega, (clo0 0).2 (.inl rfl)⟩
    · exact ⟨1, rfl, by omega, (clo0 1).2 (.inr rfl)⟩
theorem fin0 : finS lAw aS0 = false := by
  unfold finS
  rw [List.any_eq_false]
  intro z hz
  rcases (mem0 z).1 hz with rfl | rfl <;> decide
end Go.Proofs.YtclahhkcbkpofaaDoor
