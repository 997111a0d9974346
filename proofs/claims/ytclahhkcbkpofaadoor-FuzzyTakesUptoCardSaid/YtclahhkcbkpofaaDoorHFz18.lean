/- The states in the midst of rows: which texts lead there (plain Lean). -/
import Derived.Test.YtclahhkcbkpofaaDoorHFz17
import Derived.Test.YtclahhkcbkpofaaDoorHFz16
import Derived.Test.YtclahhkcbkpofaaDoorHFz11
namespace Go.Proofs.YtclahhkcbkpofaaDoor
theorem Way.snoc_ind {E : Edge} {x : Nat} {motive : Nat → List Nat → Prop} (h0 : motive x []) (hs : ∀ y t u z, Way E x t y → motive y t → E y u z → motive z (t ++ u)) {y : Nat} {t : List Nat} (h : Way E x t y) : motive y t := by
  have key : ∀ {v y : Nat} {t : List Nat}, Way E v t y → ∀ t0, Way E x t0 v → motive v t0 → motive y (t0 ++ t) := by
    intro v y t h
    induction h with
    | nil => intro t0 _ hm; rwa [List.append_nil]
    | cons h1 _ ih =>
      intro t0 hw hm
      rw [← List.append_assoc]
      exact ih _ (hw.trans (.one h1)) (hs _ _ _ _ hw hm h1)
  exact key h [] (.nil _) h0
/-- The edges of a row's chain: the new states stand from N on. -/
def chainE : Nat → Nat → Nat → List (Int × Int) → Edge
  | _, _, _, [] => fun _ _ _ => False
  | _, a, b, [p] => oneE a b fun t => ∃ c : Nat, t = [c] ∧ p.1 ≤ (c : Int) ∧ (c : Int) ≤ p.2
  | N, a, b, p :: q :: r => orE (oneE a N fun t => ∃ c : Nat, t = [c] ∧ p.1 ≤ (c : Int) ∧ (c : Int) ≤ p.2) (chainE (N + 1) N b (q :: r))
theorem leadRow_edge : ∀ (r : List (Int × Int)) (l : List Lst) (a b : Nat), a < l.length → ∀ x t y, edgeL (leadRow l a b r) x t y ↔ orE (edgeL l) (chainE l.length a b r) x t y
  | [], l, a, b, _, x, t, y => ⟨.inl, fun h => h.elim id False.elim⟩
  | [p], l, a, b, ha, x, t, y => addArc_edge ha x t y
  | p :: q :: r, l, a, b, ha, x, t, y => by
    rw [leadRow, chainE]
    have hlen : (addArc (l ++ [⟨false, [], []⟩]) a (p.1, p.2, (l.length : Int))).length = l.length + 1 := by rw [addArc_len, List.length_append]; rfl
    rw [leadRow_edge (q :: r) _ l.length b (by rw [hlen]; omega), hlen]
    show edgeL _ x t y ∨ _ ↔ edgeL l x t y ∨ (_ ∨ _)
    rw [addArc_edge (by rw [List.length_append]; omega)]
    have := @bare_edge l x t y
    unfold orE
    rw [this, or_assoc]
def chainsE : Nat → Nat → Nat → List (List (Int × Int)) → Edge
  | _, _, _, [] => fun _ _ _ => False
  | N, a, b, r :: rs => orE (chainE N a b r) (chainsE (N + (r.length - 1)) a b rs)
theorem leadRows_edge : ∀ (rs : List (List (Int × Int))) (l : List Lst) (a b : Nat), a < l.length → ∀ x t y, edgeL (leadRows l a b rs) x t y ↔ orE (edgeL l) (chainsE l.length a b rs) x t y
  | [], l, a, b, _, x, t, y => ⟨.inl, fun h => h.elim id False.elim⟩
  | r :: rs, l, a, b, ha, x, t, y => by
    have hlen := leadRow_len r l a b
    show edgeL (leadRows (leadRow l a b r) a b rs) x t y ↔ _
    rw [leadRows_edge rs _ a b (by omega), chainsE]
    unfold orE
    rw [leadRow_edge r l a b ha, hlen]
    unfold orE
    rw [or_assoc]
def midsN : List (List (Int × Int)) → Nat
  | [] => 0
  | r :: rs => (r.length - 1) + midsN rs
theorem leadRows_len : ∀ (rs : List (List (Int × Int))) (l : List Lst) (a b : Nat), (leadRows l a b rs).length = l.length + midsN rs
  | [], l, a, b => rfl
  | r :: rs, l, a, b => by
    show (leadRows (leadRow l a b r) a b rs).length = _
    rw [leadRows_len rs, leadRow_len, midsN]
    omega
theorem leadRows_in : ∀ (rs : List (List (Int × Int))) (l : List Lst) (a b : Nat), a < l.length → b < l.length → InE (edgeL l) l.length → InE (edgeL (leadRows l a b rs)) (leadRows l a b rs).length
  | [], l, a, b, _, _, hl => hl
  | r :: rs, l, a, b, ha, hb, hl => by
    have hlen := leadRow_len r l a b
    exact leadRows_in rs (leadRow l a b r) a b (by omega) (by omega) (leadRow_in r l a b ha hb hl)
/-- A text leads as far as a state in the midst of a row (from N on). -/
def midP (N : Nat) (r : List (Int × Int)) (u : List Nat) (y : Nat) : Prop := 0 < u.length ∧ u.length < r.length ∧ y + 1 = N + u.length ∧ fitN (r.take u.length) u
def midsP : Nat → List (List (Int × Int)) → List Nat → Nat → Prop
  | _, [], _, _ => False
  | N, r :: rs, u, y => midP N r u y ∨ midsP (N + (r.length - 1)) rs u y
theorem fitN_len : ∀ {r : List (Int × Int)} {u : List Nat}, fitN r u → r.length = u.length
  | [], [], _ => rfl
  | _ :: _, _ :: _, h => by rw [List.length_cons, List.length_cons, fitN_len h.2.2]
  | [], _ :: _, h => h.elim
  | _ :: _, [], h => h.elim
theorem fitN_snoc : ∀ {r : List (Int × Int)} {u : List Nat} {p : Int × Int} {c : Nat}, fitN r u → p.1 ≤ (c : Int) → (c : Int) ≤ p.2 → fitN (r ++ [p]) (u ++ [c])
  | [], [], _, _, _, h1, h2 => ⟨h1, h2, trivial⟩
  | _ :: _, _ :: _, _, _, h, h1, h2 => ⟨h.1, h.2.1, fitN_snoc h.2.2 h1 h2⟩
  | [], _ :: _, _, _, h, _, _ => h.elim
  | _ :: _, [], _, _, h, _, _ => h.elim
/-- The edges of a chain, one by one. -/
theorem chain_in : ∀ {r : List (Int × Int)} {N a b : Nat} {x y : Nat} {t : List Nat}, chainE N a b r x t y → ∃ (i : Nat) (p : Int × Int) (c : Nat), r[i]? = some p ∧ t = [c] ∧ p.1 ≤ (c : Int) ∧ (c : Int) ≤ p.2 ∧ (if i = 0 then x = a else x + 1 = N + i) ∧ (if i + 1 = r.length then y = b else y = N + i)
  | [], _, _, _, _, _, _, h => h.elim
  | [p], N, a, b, x, y, t, h => by
    obtain ⟨rfl, rfl, c, rfl, h1, h2⟩ := h
    exact ⟨0, p, c, rfl, rfl, h1, h2, rfl, rfl⟩
  | p :: q :: r, N, a, b, x, y, t, h => by
    rcases h with ⟨rfl, rfl, c, rfl, h1, h2⟩ | h
    · refine ⟨0, p, c, rfl, rfl, h1, h2, rfl, ?_⟩
      rw [if_neg (by simp)]
      rfl
    · obtain ⟨i, p', c, h3, h4, h5, h6, h7, h8⟩ := chain_in h
      refine ⟨i + 1, p', c, h3, h4, h5, h6, ?_, ?_⟩
      · rw [if_neg (by omega)]
        split at h7
        · omega
        · omega
      · rw [List.length_cons] at h8 ⊢
        split at h8
        · rw [if_pos (by simp at *; omega)]; exact h8
        · rw [if_neg (by simp at *; omega)]; omega
theorem chain_out : ∀ {r : List (Int × Int)} {N a b : Nat} {i : Nat} {p : Int × Int} {c x y : Nat}, r[i]? = some p → p.1 ≤ (c : Int) → (c : Int) ≤ p.2 → (if i = 0 then x = a else x + 1 = N + i) → (if i + 1 = r.length then y = b else y = N + i) → chainE N a b r x [c] y
  | [], _, _, _, _, _, _, _, _, h, _, _, _, _ => by simp at h
  | [q], N, a, b, i, p, c, x, y, h, h1, h2, h3, h4 => by
    have hi : i = 0 := by have := (List.getElem?_eq_some_iff.1 h).1; simp at this; omega
    subst hi
    simp at h
    subst h
    exact ⟨h3, h4, c, rfl, h1, h2⟩
  | q :: q' :: r, N, a, b, i, p, c, x, y, h, h1, h2, h3, h4 => by
    cases i with
    | zero =>
      simp at h
      subst h
      rw [if_neg (by simp)] at h4
      exact .inl ⟨h3, h4, c, rfl, h1, h2⟩
    | succ i =>
      refine .inr (chain_out (i := i) (p := p) (by simpa using h) h1 h2 ?_ ?_)
      · rw [if_neg (by omega)] at h3
        split <;> omega
      · rw [List.length_cons] at h4
        split at h4
        · rw [if_pos (by omega)]; exact h4
        · rw [if_neg (by omega)]; omega
theorem midsP_in : ∀ {rs : List (List (Int × Int))} {N : Nat} {u : List Nat} {y : Nat}, midsP N rs u y → N ≤ y ∧ y < N + midsN rs
  | [], _, _, _, h => h.elim
  | r :: rs, N, u, y, h => by
    rw [midsN]
    rcases h with ⟨h1, h2, h3, _⟩ | h
    · omega
    · have := midsP_in h
      omega
theorem chains_mid : ∀ {rs : List (List (Int × Int))} {N a b x y : Nat} {t : List Nat}, a < N → b < N → chainsE N a b rs x t y → N ≤ y → (x = a ∧ midsP N rs t y) ∨ (N ≤ x ∧ ∀ u, midsP N rs u x → midsP N rs (u ++ t) y)
  | [], _, _, _, _, _, _, _, _, h, _ => h.elim
  | r :: rs, N, a, b, x, y, t, ha, hb, h, hy => by
    rcases h with h | h
    · obtain ⟨i, p, c, h1, rfl, h3, h4, h5, h6⟩ := chain_in h
      have hil := (List.getElem?_eq_some_iff.1 h1).1
      have hne : ¬ i + 1 = r.length := fun e => by rw [if_pos e] at h6; omega
      rw [if_neg hne] at h6
      by_cases e : i = 0
      · subst e
        rw [if_pos rfl] at h5
        refine .inl ⟨h5, .inl ⟨by simp, by simp; omega, by simp; omega, ?_⟩⟩
        have e1 : r.take [c].length = [p] := by
          show r.take 1 = [p]
          rw [List.take_add_one, List.take_zero, h1]
          rfl
        rw [e1]
        exact ⟨h3, h4, trivial⟩
      · rw [if_neg e] at h5
        refine .inr ⟨by omega, fun u hu => ?_⟩
        rcases hu with ⟨k1, k2, k3, k4⟩ | hu
        · have hul : u.length = i := by omega
          refine .inl ⟨by simp, by simp; omega, by simp; omega, ?_⟩
          rw [List.length_append, List.length_singleton, hul, List.take_add_one, h1]
          rw [hul] at k4
          exact fitN_snoc k4 h3 h4
        · have := midsP_in hu
          omega
    · by_cases hyr : N + (r.length - 1) ≤ y
      · rcases chains_mid (N := N + (r.length - 1)) (by omega) (by omega) h hyr with ⟨h1, h2⟩ | ⟨h1, h2⟩
        · exact .inl ⟨h1, .inr h2⟩
        · refine .inr ⟨by omega, fun u hu => ?_⟩
          rcases hu with ⟨k1, k2, k3, _⟩ | hu
          · omega
          · exact .inr (h2 u hu)
      · exfalso
        have key : ∀ {rs : List (List (Int × Int))} {M x y : Nat} {t : List Nat}, chainsE M a b rs x t y → y = b ∨ M ≤ y := by
          intro rs
          induction rs with
          | nil => intro M x y t h; exact h.elim
          | cons r rs ih =>
            intro M x y t h
            rcases h with h | h
            · obtain ⟨i, p, c, h1, _, _, _, _, h6⟩ := chain_in h
              split at h6
              · exact .inl h6
              · exact .inr (by omega)
            · rcases ih h with h | h
              · exact .inl h
              · exact .inr (by omega)
        rcases key h with h | h <;> omega
/-- Which texts lead into the midst of rows. -/
theorem mids_way {l : List Lst} {a b : Nat} {rs : List (List (Int × Int))} {X : Edge} (ha : a < l.length) (hb : b < l.length) (hl : InE (edgeL l) l.length) (hX : InE X l.length) {x y : Nat} {t : List Nat} (hx : x < l.length) (hy : l.length ≤ y) :
    Way (orE (edgeL (leadRows l a b rs)) X) x t y ↔ ∃ t' u, t = t' ++ u ∧ Way (orE (edgeL (leadRows l a b rs)) X) x t' a ∧ midsP l.length rs u y := by
  constructor
  · intro h
    refine Way.snoc_ind (motive := fun y t => l.length ≤ y → ∃ t' u, t = t' ++ u ∧ Way (orE (edgeL (leadRows l a b rs)) X) x t' a ∧ midsP l.length rs u y) (fun h => by omega) (fun v t u z hw ih he hz => ?_) h hy
    rcases he with he | he
    · rcases (leadRows_edge rs l a b ha _ _ _).1 he with he | he
      · have := (hl _ _ _ he).2
        omega
      · rcases chains_mid ha hb he hz with ⟨rfl, hm⟩ | ⟨hv, hm⟩
        · exact ⟨t, u, rfl, hw, hm⟩
        · obtain ⟨t', u', rfl, h1, h2⟩ := ih hv
          exact ⟨t', u' ++ u, by rw [List.append_assoc], h1, hm u' h2⟩
    · have := (hX _ _ _ he).2
      omega
  · rintro ⟨t', u, rfl, hw, hm⟩
    refine hw.trans ?_
    have key : ∀ {rs' : List (List (Int × Int))} {N : Nat} {u : List Nat} {y : Nat}, midsP N rs' u y → Way (chainsE N a b rs') a u y := by
      intro rs'
      induction rs' with
      | nil => intro N u y h; exact h.elim
      | cons r rs' ih =>
        intro N u y h
        rcases h with ⟨k1, k2, k3, k4⟩ | h
        · refine Way.mono (fun _ _ _ h => .inl h) ?_
          have hk : ∀ (n : Nat) (u : List Nat) (y : Nat), u.length = n → 0 < n → n < r.length → y + 1 = N + n → fitN (r.take n) u → Way (chainE N a b r) a u y := by
            intro n
            induction n with
            | zero => intro u y _ h0; omega
            | succ n ihn =>
              intro u y hu h0 hr hyn hf
              obtain ⟨p, hp⟩ : ∃ p, r[n]? = some p := ⟨r[n]'(by omega), List.getElem?_eq_getElem _⟩
              rw [List.take_add_one, hp] at hf
              have hf : fitN (r.take n ++ [p]) u := hf
              obtain ⟨u', c, rfl⟩ : ∃ u' c, u = u' ++ [c] := ⟨u.dropLast, u.getLast (by intro e; rw [e] at hu; cases hu), (List.dropLast_concat_getLast _).symm⟩
              rw [List.length_append, List.length_singleton] at hu
              have hsp : ∀ {q : List (Int × Int)} {v : List Nat}, q.length = v.length → fitN (q ++ [p]) (v ++ [c]) → fitN q v ∧ p.1 ≤ (c : Int) ∧ (c : Int) ≤ p.2 := by
                intro q
                induction q with
                | nil =>
                  intro v hv h
                  cases v with
                  | nil => exact ⟨trivial, h.1, h.2.1⟩
                  | cons _ _ => cases hv
                | cons q0 q ihq =>
                  intro v hv h
                  cases v with
                  | nil => cases hv
                  | cons v0 v =>
                    obtain ⟨i1, i2⟩ := ihq (by simpa using hv) h.2.2
                    exact ⟨⟨h.1, h.2.1, i1⟩, i2⟩
              obtain ⟨hf1, hf2, hf3⟩ := hsp (by rw [List.length_take]; omega) hf
              by_cases hn0 : n = 0
              · subst hn0
                have : u' = [] := List.eq_nil_of_length_eq_zero (by omega)
                subst this
                exact .one (chain_out hp hf2 hf3 (by rw [if_pos rfl]) (by rw [if_neg (by omega)]; omega))
              · have h1 := ihn u' (y - 1) (by omega) (by omega) (by omega) (by omega) hf1
                refine h1.trans (.one (chain_out hp hf2 hf3 ?_ ?_))
                · rw [if_neg hn0]; omega
                · rw [if_neg (by omega)]; omega
          exact hk u.length u y rfl k1 k2 k3 k4
        · exact Way.mono (fun _ _ _ h => .inr h) (ih h)
    exact Way.mono (fun x t y h => .inl ((leadRows_edge rs l a b ha x t y).2 (.inr h))) (key hm)
end Go.Proofs.YtclahhkcbkpofaaDoor
/- The fixed automaton of awake, in plain Lean. -/
namespace Go.Proofs.YtclahhkcbkpofaaDoor
open Go.RowKit
def lAw : List Lst := [⟨false, [(97, 98, 0)], [1]⟩, ⟨false, [(99, 99, 2)], []⟩, ⟨true, [], []⟩]
/-! ### What it takes -/
theorem clo0 (x : Nat) : Clo lAw (fun x => x = 0) x ↔ x = 0 ∨ x = 1 := by
  constructor
  · intro h
    induction h with
    | base h => exact .inl h
    | @step y x s _ hs hx ih =>
      rcases ih with rfl | rfl
      · simp [lAw] at hs
        subst hs
        simp at hx
        omega
      · simp [lAw] at hs
        subst hs
        simp at hx
  · rintro (rfl | rfl)
    · exact .base rfl
    · exact .step (y := 0) (s := ⟨false, [(97, 98, 0)], [1]⟩) (.base rfl) rfl (by simp)
noncomputable def aS0 : List Int := setL 3 (Clo lAw fun x => x = 0)
theorem mem0 (z : Int) : z ∈ aS0 ↔ z = 0 ∨ z = 1 := by
  unfold aS0
  rw [setL_mem]
  constructor
  · rintro ⟨x, rfl, _, h⟩
    rcases (clo0 x).1 h with rfl | rfl <;> simp
  · rintro (rfl | rfl)
    · exact ⟨0, rfl, by omega, (clo0 0).2 (.inl rfl)⟩
    · exact ⟨1, rfl, by omega, (clo0 1).2 (.inr rfl)⟩
theorem fin0 : finS lAw aS0 = false := by
  unfold finS
  rw [List.any_eq_false]
  intro z hz
  rcases (mem0 z).1 hz with rfl | rfl <;> decide
end Go.Proofs.YtclahhkcbkpofaaDoor
/- How many sets of states are met where a range's characters lead from one state to another (plain Lean). -/
namespace Go.Proofs.YtclahhkcbkpofaaDoor
/-! ### Sets that are met are those of texts -/
theorem runP_snocC {l : List Lst} : ∀ (t : List Nat) (P : Nat → Prop) (c : Nat), runP l P (t ++ [c]) = Clo l (ovP l (runP l P t) c)
  | [], _, _ => rfl
  | b :: t, P, c => by
    show runP l (Clo l (ovP l P b)) (t ++ [c]) = _
    rw [runP_snocC t]
    rfl
theorem row_in {σ : Type} [DecidableEq σ] {W : Bfs σ} (hW : Plain W) (P : σ → Prop) (hP : ∀ x c y, P x → c < 256 → W.step x c = some y → P y) (x : σ) (hx : P x) {met : List σ} (h1 : met.Nodup) (h2 : ∀ z ∈ met, P z) : ∀ c, c ≤ 256 → (W.row x met c).Nodup ∧ ∀ z ∈ W.row x met c, P z
  | 0, _ => ⟨h1, h2⟩
  | n + 1, hn => by
    obtain ⟨h3, h4⟩ := row_in hW P hP x hx h1 h2 n (by omega)
    rw [Bfs.row]
    cases hs : W.step x n with
    | none => exact ⟨h3, h4⟩
    | some y =>
      simp only
      rw [hW.find, hW.rep]
      cases hf : findE y (W.row x met n) with
      | some i => exact ⟨h3, h4⟩
      | none =>
        refine ⟨List.nodup_append.2 ⟨h3, List.pairwise_singleton _ _, fun a ha b hb => ?_⟩, fun z hz => ?_⟩
        · rw [List.mem_singleton.1 hb]
          intro e
          have := findI_none.1 hf a ha
          rw [e] at this
          simp at this
        · rcases List.mem_append.1 hz with hz | hz
          · exact h4 z hz
          · rw [List.mem_singleton.1 hz]; exact hP x n y hx (by omega) hs
theorem runs_in {σ : Type} [DecidableEq σ] {W : Bfs σ} (hW : Plain W) (P : σ → Prop) (hP : ∀ x c y, P x → c < 256 → W.step x c = some y → P y) {x0 : σ} (h0 : P x0) : ∀ f, (W.run f 0 [x0]).Nodup ∧ ∀ z ∈ W.run f 0 [x0], P z
  | 0 => ⟨List.pairwise_singleton _ _, fun z hz => by rw [List.mem_singleton.1 hz]; exact h0⟩
  | f + 1 => by
    obtain ⟨h1, h2⟩ := runs_in hW P hP h0 f
    rw [W.run_succ]
    split
    · rename_i x hx
      exact row_in hW P hP _ (h2 x (List.mem_of_getElem? hx)) h1 h2 256 (Nat.le_refl _)
    · exact ⟨h1, h2⟩
theorem nodup_le {σ : Type} [DecidableEq σ] : ∀ {l L : List σ}, l.Nodup → (∀ x ∈ l, x ∈ L) → l.length ≤ L.length
  | [], _, _, _ => Nat.zero_le _
  | x :: l, L, hn, hs => by
    obtain ⟨h1, h2⟩ := List.nodup_cons.1 hn
    have h3 := nodup_le (l := l) (L := L.erase x) h2 fun y hy => (List.mem_erase_of_ne (fun e => h1 (by rw [← e]; exact hy))).2 (hs y (List.mem_cons_of_mem _ hy))
    have h4 := List.length_erase_of_mem (hs x (List.mem_cons_self ..))
    have h5 := List.length_pos_of_mem (hs x (List.mem_cons_self ..))
    rw [List.length_cons]
    omega
/-- If the sets of all texts stand in a list, no more of them are met. -/
theorem met_few {l : List Lst} (L : List (List Int)) (h : ∀ t : List Nat, setL l.length (fun y => Way (edgeL l) 0 t y) ∈ L) (f : Nat) : ((subW l).run f 0 [setL l.length (Clo l fun x => x = 0)]).length ≤ L.length := by
  have hr : ∀ t, runP l (Clo l fun x => x = 0) t = fun y => Way (edgeL l) 0 t y := fun t => by
    funext y
    apply propext
    rw [run_way]
    exact ⟨fun ⟨x, hx, hw⟩ => by rw [← hx]; exact hw, fun hw => ⟨0, rfl, hw⟩⟩
  obtain ⟨h1, h2⟩ := runs_in (subW_plain l) (fun S => ∃ t, S = setL l.length (runP l (Clo l fun x => x = 0) t)) (fun S c T ⟨t, ht⟩ _ hs => by
    have hs : stepS l S c = some T := hs
    unfold stepS at hs
    split at hs
    · injection hs with hs
      refine ⟨t ++ [c], ?_⟩
      rw [← hs, runP_snocC, ht, overP_set]
    · cases hs) (x0 := setL l.length (Clo l fun x => x = 0)) ⟨[], rfl⟩ f
  refine nodup_le h1 fun S hS => ?_
  obtain ⟨t, ht⟩ := h2 S hS
  rw [ht, hr t]
  exact h t
/-! ### Cuts: bytes that stand for all -/
def repB (cs : List Nat) (c : Nat) : Nat := (cs.filter (· ≤ c)).foldl max 0
theorem foldl_max (cs : List Nat) : ∀ m, m ≤ cs.foldl max m ∧ (∀ x ∈ cs, x ≤ cs.foldl max m) ∧ (cs.foldl max m = m ∨ cs.foldl max m ∈ cs) := by
  induction cs with
  | nil => exact fun m => ⟨Nat.le_refl _, fun x hx => absurd hx List.not_mem_nil, .inl rfl⟩
  | cons a cs ih =>
    intro m
    obtain ⟨h1, h2, h3⟩ := ih (max m a)
    rw [List.foldl_cons]
    refine ⟨by omega, fun x hx => ?_, ?_⟩
    · rcases List.mem_cons.1 hx with rfl | hx
      · omega
      · exact h2 x hx
    · rcases h3 with h3 | h3
      · rw [h3]
        by_cases h : a ≤ m
        · left; omega
        · right
          rw [show max m a = a by omega]
          exact List.mem_cons_self ..
      · exact .inr (List.mem_cons_of_mem _ h3)
theorem repB_le (cs : List Nat) (c : Nat) : repB cs c ≤ c := by
  obtain ⟨_, _, h⟩ := foldl_max (cs.filter (· ≤ c)) 0
  unfold repB
  rcases h with h | h
  · rw [h]; exact Nat.zero_le _
  · have := (List.mem_filter.1 h).2
    simpa using this
theorem repB_ge {cs : List Nat} {c x : Nat} (hx : x ∈ cs) (h : x ≤ c) : x ≤ repB cs c := (foldl_max (cs.filter (· ≤ c)) 0).2.1 x (List.mem_filter.2 ⟨hx, by simpa using h⟩)
theorem repB_mem {cs : List Nat} (h0 : 0 ∈ cs) (c : Nat) : repB cs c ∈ cs := by
  obtain ⟨_, _, h⟩ := foldl_max (cs.filter (· ≤ c)) 0
  unfold repB
  rcases h with h | h
  · rw [h]; exact h0
  · exact (List.mem_filter.1 h).1
theorem repB_fit {cs : List Nat} {c : Nat} {p : Int × Int} (h1 : p.1.toNat ∈ cs) (h2 : (p.2 + 1).toNat ∈ cs) (h3 : 0 ≤ p.1) (h4 : 0 ≤ p.2) : (p.1 ≤ (c : Int) ∧ (c : Int) ≤ p.2) ↔ (p.1 ≤ (repB cs c : Int) ∧ (repB cs c : Int) ≤ p.2) := by
  have hle := repB_le cs c
  constructor
  · rintro ⟨k1, k2⟩
    have := repB_ge (c := c) h1 (by omega)
    omega
  · rintro ⟨k1, k2⟩
    refine ⟨by omega, ?_⟩
    by_cases h : (c : Int) ≤ p.2
    · exact h
    · have := repB_ge (c := c) h2 (by omega)
      omega
def repU : List (List Nat) → List Nat → List Nat
  | c :: cs, x :: u => repB c x :: repU cs u
  | _, _ => []
theorem repU_len : ∀ {cs : List (List Nat)} {u : List Nat}, cs.length = u.length → (repU cs u).length = u.length
  | [], [], _ => rfl
  | _ :: cs, _ :: u, h => by
    rw [repU, List.length_cons, List.length_cons, repU_len (by simpa using h)]
def prodL : List (List Nat) → List (List Nat)
  | [] => [[]]
  | c :: cs => c.flatMap fun x => (prodL cs).map (x :: ·)
theorem prodL_mem : ∀ {cs : List (List Nat)} {u : List Nat}, cs.length = u.length → (∀ c ∈ cs, 0 ∈ c) → repU cs u ∈ prodL cs
  | [], [], _, _ => by simp [repU, prodL]
  | c :: cs, x :: u, h, h0 => by
    rw [repU, prodL, List.mem_flatMap]
    exact ⟨repB c x, repB_mem (h0 c (List.mem_cons_self ..)) x, List.mem_map_of_mem (prodL_mem (by simpa using h) fun c hc => h0 c (List.mem_cons_of_mem _ hc))⟩
theorem flat_const {α β : Type} (f : α → List β) (m : Nat) (hf : ∀ x, (f x).length = m) (l : List α) : (l.flatMap f).length = l.length * m := by
  induction l with
  | nil => simp
  | cons x l ih => rw [List.flatMap_cons, List.length_append, ih, hf, List.length_cons, Nat.add_mul]; omega
theorem rep_fit : ∀ {q : List (Int × Int)} {cs : List (List Nat)} {u : List Nat}, q.length = u.length → cs.length = u.length → (∀ (k : Nat) p c, q[k]? = some p → cs[k]? = some c → p.1.toNat ∈ c ∧ (p.2 + 1).toNat ∈ c) → (∀ p ∈ q, 0 ≤ p.1 ∧ 0 ≤ p.2) → (fitN q u ↔ fitN q (repU cs u))
  | [], [], [], _, _, _, _ => Iff.rfl
  | [], _ :: _, [], _, h, _, _ => by simp at h
  | [], _, _ :: _, h, _, _, _ => by simp at h
  | _ :: _, _, [], h, _, _, _ => by simp at h
  | _ :: _, [], _ :: _, _, h, _, _ => by simp at h
  | p :: q, c :: cs, x :: u, h1, h2, h3, h4 => by
    have ih := rep_fit (q := q) (cs := cs) (u := u) (by simpa using h1) (by simpa using h2) (fun k p c hp hc => h3 (k + 1) p c (by simpa using hp) (by simpa using hc)) fun p hp => h4 p (List.mem_cons_of_mem _ hp)
    obtain ⟨k1, k2⟩ := h3 0 p c rfl rfl
    obtain ⟨k3, k4⟩ := h4 p (List.mem_cons_self ..)
    have hb := repB_fit (c := x) k1 k2 k3 k4
    show (p.1 ≤ (x : Int) ∧ (x : Int) ≤ p.2 ∧ fitN q u) ↔ (p.1 ≤ (repB c x : Int) ∧ (repB c x : Int) ≤ p.2 ∧ fitN q (repU cs u))
    rw [← and_assoc, ← and_assoc, hb, ih]
def cutsAt (rs : List (List (Int × Int))) (d k : Nat) : List Nat := 0 :: (rs.filter fun r => decide (d < r.length)).flatMap fun r => match r[k]? with
  | some p => [p.1.toNat, (p.2 + 1).toNat]
  | none => [0, 0]
def cutsU (rs : List (List (Int × Int))) (d : Nat) : List (List Nat) := (List.range d).map (cutsAt rs d)
theorem cutsU_len (rs : List (List (Int × Int))) (d : Nat) : (cutsU rs d).length = d := by unfold cutsU; rw [List.length_map, List.length_range]
theorem mids_rep {rs : List (List (Int × Int))} (hr : ∀ r ∈ rs, ∀ p ∈ r, 0 ≤ p.1 ∧ 0 ≤ p.2) {u : List Nat} : ∀ {rs' : List (List (Int × Int))} {N y : Nat}, (∀ r ∈ rs', r ∈ rs) → (midsP N rs' u y ↔ midsP N rs' (repU (cutsU rs u.length) u) y)
  | [], _, _, _ => Iff.rfl
  | r :: rs', N, y, hs => by
    have hl := repU_len (u := u) (cutsU_len rs u.length)
    unfold midsP
    refine or_congr ?_ (mids_rep hr fun r h => hs r (List.mem_cons_of_mem _ h))
    unfold midP
    rw [hl]
    refine and_congr Iff.rfl ⟨fun ⟨h1, h2, h3⟩ => ⟨h1, h2, ?_⟩, fun ⟨h1, h2, h3⟩ => ⟨h1, h2, ?_⟩⟩
    all_goals
      have key := rep_fit (q := r.take u.length) (cs := cutsU rs u.length) (u := u) (by rw [List.length_take]; omega) (cutsU_len rs u.length) (fun k p c hp hc => by
        unfold cutsU at hc
        rw [List.getElem?_map] at hc
        obtain ⟨k', hk', rfl⟩ := Option.map_eq_some_iff.1 hc
        have hkl := (List.getElem?_eq_some_iff.1 hk').1
        rw [List.length_range] at hkl
        rw [List.getElem?_range hkl] at hk'
        injection hk' with hk'
        subst hk'
        rw [List.getElem?_take_of_lt hkl] at hp
        have hmem : r ∈ rs.filter fun r => decide (u.length < r.length) := List.mem_filter.2 ⟨hs r (List.mem_cons_self ..), decide_eq_true h1⟩
        unfold cutsAt
        constructor <;> refine List.mem_cons_of_mem _ (List.mem_flatMap.2 ⟨r, hmem, ?_⟩) <;> rw [hp] <;> simp) (fun p hp => hr r (hs r (List.mem_cons_self ..)) p (List.mem_of_mem_take hp))
    · exact key.1 h3
    · exact key.2 h3
/-- Rows of characters: a first byte from 192 on, if there are more; the others from 128 up to 191; not too many. -/
structure RowsU (rs : List (List (Int × Int))) : Prop where
  len : ∀ r ∈ rs, 1 ≤ r.length ∧ r.length ≤ 4
  ok : ∀ r ∈ rs, ∀ p ∈ r, 0 ≤ p.1 ∧ 0 ≤ p.2
  lead : ∀ r ∈ rs, 1 < r.length → ∀ p, r[0]? = some p → 192 ≤ p.1
  cont : ∀ r ∈ rs, ∀ (k : Nat) p, 0 < k → r[k]? = some p → 128 ≤ p.1 ∧ p.2 ≤ 191
  few1 : (rs.filter fun r => decide (1 < r.length)).length ≤ 20
  few2 : (rs.filter fun r => decide (2 < r.length)).length ≤ 17
  few3 : (rs.filter fun r => decide (3 < r.length)).length ≤ 7
/-- A first byte, and others behind it. -/
def Shp : List Nat → Prop
  | [] => False
  | c :: t => 192 ≤ c ∧ ∀ d ∈ t, d ≤ 191
theorem fitN_get : ∀ {q : List (Int × Int)} {u : List Nat}, fitN q u → ∀ (k : Nat) p c, q[k]? = some p → u[k]? = some c → p.1 ≤ (c : Int) ∧ (c : Int) ≤ p.2
  | [], [], _, _, _, _, h, _ => by simp at h
  | p :: q, c :: u, h, k, p', c', h1, h2 => by
    cases k with
    | zero =>
      simp at h1 h2
      subst h1 h2
      exact ⟨h.1, h.2.1⟩
    | succ k => exact fitN_get h.2.2 k p' c' (by simpa using h1) (by simpa using h2)
  | [], _ :: _, h, _, _, _, _, _ => h.elim
  | _ :: _, [], h, _, _, _, _, _ => h.elim
theorem mids_shape {rs : List (List (Int × Int))} (hr : RowsU rs) {u : List Nat} : ∀ {rs' : List (List (Int × Int))} {N y : Nat}, (∀ r ∈ rs', r ∈ rs) → midsP N rs' u y → Shp u ∧ u.length ≤ 3
  | [], _, _, _, h => h.elim
  | r :: rs', N, y, hs, h => by
    rcases h with ⟨h1, h2, h3, h4⟩ | h
    · have hrm := hs r (List.mem_cons_self ..)
      have hl := (hr.len r hrm).2
      refine ⟨?_, by omega⟩
      cases u with
      | nil => simp at h1
      | cons c t =>
        rw [List.length_cons] at h2
        have hg : ∀ (k : Nat) p d, r[k]? = some p → (c :: t)[k]? = some d → p.1 ≤ (d : Int) ∧ (d : Int) ≤ p.2 := fun k p d hp hd => fitN_get h4 k p d (by
          rw [List.getElem?_take_of_lt (List.getElem?_eq_some_iff.1 hd).1]
          exact hp) hd
        refine ⟨?_, fun d hd => ?_⟩
        · have h5 := hg 0 r[0] c (List.getElem?_eq_getElem (by omega)) rfl
          have h6 := hr.lead r hrm (by omega) r[0] (List.getElem?_eq_getElem (by omega))
          omega
        · obtain ⟨k, hk⟩ := List.mem_iff_getElem?.1 hd
          have hkl := (List.getElem?_eq_some_iff.1 hk).1
          have h5 := hg (k + 1) r[k + 1] d (List.getElem?_eq_getElem (by omega)) (by simpa using hk)
          have h6 := (hr.cont r hrm (k + 1) r[k + 1] (by omega) (List.getElem?_eq_getElem (by omega))).2
          omega
    · exact mids_shape hr (fun r h => hs r (List.mem_cons_of_mem _ h)) h
/-- All texts into the midst that stand for others. -/
def candsU (rs : List (List (Int × Int))) : List (Option (List Nat)) := none :: ((prodL (cutsU rs 1) ++ prodL (cutsU rs 2) ++ prodL (cutsU rs 3)).map some)
end Go.Proofs.YtclahhkcbkpofaaDoor
