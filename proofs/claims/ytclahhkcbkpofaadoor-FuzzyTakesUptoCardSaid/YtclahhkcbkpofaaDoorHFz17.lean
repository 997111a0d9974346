/- Ways through loose automata: texts along edges; a row of ranges put between two states (plain Lean). -/
import Derived.Test.YtclahhkcbkpofaaDoorHFz16
namespace Go.Proofs.YtclahhkcbkpofaaDoor
abbrev Edge := Nat → List Nat → Nat → Prop
inductive Way (E : Edge) : Nat → List Nat → Nat → Prop
  | nil (x : Nat) : Way E x [] x
  | cons {x y z : Nat} {t u : List Nat} (h : E x t y) (r : Way E y u z) : Way E x (t ++ u) z
section
variable {E F : Edge} {x y z : Nat} {t u : List Nat}
theorem Way.one (h : E x t y) : Way E x t y := by
  have := Way.cons h (.nil y)
  rwa [List.append_nil] at this
theorem Way.trans (h : Way E x t y) (h' : Way E y u z) : Way E x (t ++ u) z := by
  induction h with
  | nil => exact h'
  | cons h1 _ ih =>
    rw [List.append_assoc]
    exact .cons h1 (ih h')
theorem Way.bind (h : ∀ x t y, E x t y → Way F x t y) (hw : Way E x t y) : Way F x t y := by
  induction hw with
  | nil => exact .nil _
  | cons h1 _ ih => exact (h _ _ _ h1).trans ih
theorem Way.mono (h : ∀ x t y, E x t y → F x t y) (hw : Way E x t y) : Way F x t y := hw.bind fun _ _ _ h1 => .one (h _ _ _ h1)
theorem Way.iff (h : ∀ x t y, E x t y ↔ F x t y) : Way E x t y ↔ Way F x t y := ⟨.mono fun _ _ _ => (h _ _ _).1, .mono fun _ _ _ => (h _ _ _).2⟩
end
/-- The edges of a loose automaton. -/
def edgeL (l : List Lst) : Edge := fun x t y => ∃ s, l[x]? = some s ∧ ((t = [] ∧ ((y : Nat) : Int) ∈ s.free) ∨ ∃ c : Nat, t = [c] ∧ ∃ a ∈ s.arcs, a.1 ≤ (c : Int) ∧ (c : Int) ≤ a.2.1 ∧ a.2.2 = ((y : Nat) : Int))
theorem way_clo {l : List Lst} {P : Nat → Prop} {x y : Nat} {t : List Nat} (h : Way (edgeL l) x t y) : t = [] → Clo l P x → Clo l P y := by
  induction h with
  | nil => exact fun _ h => h
  | cons h1 _ ih =>
    intro he hx
    obtain ⟨e1, e2⟩ := List.append_eq_nil_iff.1 he
    refine ih e2 ?_
    obtain ⟨s, hs, ⟨_, hf⟩ | ⟨c, hc, _⟩⟩ := h1
    · exact .step hx hs hf
    · rw [e1] at hc; cases hc
theorem clo_way {l : List Lst} {P : Nat → Prop} {y : Nat} : Clo l P y ↔ ∃ x, P x ∧ Way (edgeL l) x [] y := by
  constructor
  · intro h
    induction h with
    | base h => exact ⟨_, h, .nil _⟩
    | @step z x s hz hs hx ih =>
      obtain ⟨u, hu, hw⟩ := ih
      exact ⟨u, hu, hw.trans (u := []) (.one ⟨s, hs, .inl ⟨rfl, hx⟩⟩)⟩
  · rintro ⟨x, hx, hw⟩
    exact way_clo hw rfl (.base hx)
/-- The first byte of a way. -/
theorem way_first {l : List Lst} {x y : Nat} {t : List Nat} (h : Way (edgeL l) x t y) : ∀ {c : Nat} {r : List Nat}, t = c :: r → ∃ z v, Way (edgeL l) x [] z ∧ edgeL l z [c] v ∧ Way (edgeL l) v r y := by
  induction h with
  | nil => intro c r e; cases e
  | @cons x y z t u h1 h2 ih =>
    intro c r e
    obtain ⟨s, hs, ⟨rfl, hf⟩ | ⟨d, rfl, ha⟩⟩ := h1
    · obtain ⟨w, v, k1, k2, k3⟩ := ih e
      exact ⟨w, v, (Way.one (E := edgeL l) ⟨s, hs, .inl ⟨rfl, hf⟩⟩).trans (u := []) k1, k2, k3⟩
    · injection e with e1 e2
      subst e1
      have e2 : u = r := e2
      subst e2
      exact ⟨x, y, .nil _, ⟨s, hs, .inr ⟨d, rfl, ha⟩⟩, h2⟩
theorem run_way {l : List Lst} : ∀ (t : List Nat) (P : Nat → Prop) (y : Nat), runP l (Clo l P) t y ↔ ∃ x, P x ∧ Way (edgeL l) x t y
  | [], P, y => clo_way
  | c :: r, P, y => by
    show runP l (Clo l (ovP l (Clo l P) c)) r y ↔ _
    rw [run_way r]
    constructor
    · rintro ⟨v, ⟨z, s, hz, hs, a, ha⟩, hw⟩
      obtain ⟨x, hx, hxz⟩ := clo_way.1 hz
      refine ⟨x, hx, ?_⟩
      have h1 : edgeL l z [c] v := ⟨s, hs, .inr ⟨c, rfl, a, ha⟩⟩
      exact hxz.trans (.cons h1 hw)
    · rintro ⟨x, hx, hw⟩
      obtain ⟨z, v, k1, ⟨s, hs, ⟨h1, _⟩ | ⟨d, h1, a, ha⟩⟩, k3⟩ := way_first hw rfl
      · cases h1
      · injection h1 with h1
        subst h1
        exact ⟨v, ⟨z, s, clo_way.2 ⟨x, hx, k1⟩, hs, a, ha⟩, k3⟩
open Classical in
theorem takes_way {l : List Lst} {t : List Nat} : endB l (runP l (Clo l fun x => x = 0) t) = true ↔ ∃ z s, l[z]? = some s ∧ s.fin = true ∧ Way (edgeL l) 0 t z := by
  unfold endB
  rw [decide_eq_true_eq]
  constructor
  · rintro ⟨z, s, hs, hf, hz⟩
    obtain ⟨x, rfl, hw⟩ := (run_way t _ z).1 hz
    exact ⟨z, s, hs, hf, hw⟩
  · rintro ⟨z, s, hs, hf, hw⟩
    exact ⟨z, s, hs, hf, (run_way t _ z).2 ⟨0, rfl, hw⟩⟩
/-! ### A state that is just passed -/
def orE (E F : Edge) : Edge := fun x t y => E x t y ∨ F x t y
/-- All texts of a kind lead from a to b. -/
def oneE (a b : Nat) (P : List Nat → Prop) : Edge := fun x t y => x = a ∧ y = b ∧ P t
theorem pass_way {E : Edge} {N a b : Nat} {P Q : List Nat → Prop} (hE : ∀ x t y, E x t y → x ≠ N ∧ y ≠ N) (ha : a ≠ N) (hb : b ≠ N) {x z : Nat} {s : List Nat} (hx : x ≠ N) (hz : z ≠ N) :
    Way (orE (orE E (oneE a N P)) (oneE N b Q)) x s z ↔ Way (orE E (oneE a b fun t => ∃ p q, P p ∧ Q q ∧ t = p ++ q)) x s z := by
  constructor
  · intro h
    have key : ∀ {x z : Nat} {s : List Nat}, Way (orE (orE E (oneE a N P)) (oneE N b Q)) x s z → z ≠ N → (x ≠ N → Way (orE E (oneE a b fun t => ∃ p q, P p ∧ Q q ∧ t = p ++ q)) x s z) ∧ (x = N → ∃ q s', Q q ∧ s = q ++ s' ∧ Way (orE E (oneE a b fun t => ∃ p q, P p ∧ Q q ∧ t = p ++ q)) b s' z) := by
      intro x z s h
      induction h with
      | nil x => exact fun hz => ⟨fun _ => .nil _, fun e => absurd e hz⟩
      | @cons x y z t u h1 _ ih =>
        intro hz
        obtain ⟨i1, i2⟩ := ih hz
        rcases h1 with (h1 | ⟨rfl, rfl, hp⟩) | ⟨rfl, rfl, hq⟩
        · obtain ⟨k1, k2⟩ := hE _ _ _ h1
          exact ⟨fun _ => .cons (.inl h1) (i1 k2), fun e => absurd e k1⟩
        · refine ⟨fun _ => ?_, fun e => absurd e ha⟩
          obtain ⟨q, s', hq, rfl, hw⟩ := i2 rfl
          rw [← List.append_assoc]
          exact .cons (.inr ⟨rfl, rfl, t, q, hp, hq, rfl⟩) hw
        · exact ⟨fun k => absurd rfl k, fun _ => ⟨t, u, hq, rfl, i1 hb⟩⟩
    exact (key h hz).1 hx
  · intro h
    refine h.bind fun x t y h1 => ?_
    rcases h1 with h1 | ⟨rfl, rfl, p, q, hp, hq, rfl⟩
    · exact .one (.inl (.inl h1))
    · exact (Way.one (E := orE (orE E (oneE x N P)) (oneE N y Q)) (.inl (.inr ⟨rfl, rfl, hp⟩))).trans (.one (.inr ⟨rfl, rfl, hq⟩))
/-! ### Rows of ranges between two states -/
def addArc (l : List Lst) (x : Nat) (a : Arc3) : List Lst := l.modify x fun s => ⟨s.fin, s.arcs ++ [a], s.free⟩
def leadRow : List Lst → Nat → Nat → List (Int × Int) → List Lst
  | l, _, _, [] => l
  | l, a, b, [x] => addArc l a (x.1, x.2, (b : Int))
  | l, a, b, x :: y :: r => leadRow (addArc (l ++ [⟨false, [], []⟩]) a (x.1, x.2, (l.length : Int))) l.length b (y :: r)
def fitN : List (Int × Int) → List Nat → Prop
  | [], [] => True
  | x :: r, c :: t => x.1 ≤ (c : Int) ∧ (c : Int) ≤ x.2 ∧ fitN r t
  | _, _ => False
theorem addArc_len (l : List Lst) (x : Nat) (a : Arc3) : (addArc l x a).length = l.length := List.length_modify ..
theorem addArc_at {l : List Lst} {a : Nat} {s : Lst} (z : Arc3) (h : l[a]? = some s) : (addArc l a z)[a]? = some ⟨s.fin, s.arcs ++ [z], s.free⟩ := by
  unfold addArc
  rw [List.getElem?_modify, h]
  show some (if a = a then _ else _) = _
  rw [if_pos rfl]
theorem addArc_ne {l : List Lst} {a x : Nat} (z : Arc3) (h : a ≠ x) : (addArc l a z)[x]? = l[x]? := by
  unfold addArc
  rw [List.getElem?_modify]
  cases l[x]? with
  | none => rfl
  | some s =>
    show some (if a = x then _ else _) = _
    rw [if_neg h]
theorem addArc_edge {l : List Lst} {a b : Nat} {lo hi : Int} (ha : a < l.length) (x : Nat) (t : List Nat) (y : Nat) : edgeL (addArc l a (lo, hi, (b : Int))) x t y ↔ orE (edgeL l) (oneE a b fun t => ∃ c : Nat, t = [c] ∧ lo ≤ (c : Int) ∧ (c : Int) ≤ hi) x t y := by
  by_cases e : a = x
  · subst e
    obtain ⟨s0, hs0⟩ : ∃ s, l[a]? = some s := ⟨l[a], List.getElem?_eq_getElem ha⟩
    have hs1 := addArc_at (lo, hi, (b : Int)) hs0
    constructor
    · rintro ⟨s, hs, h⟩
      rw [hs1] at hs
      injection hs with hs
      subst hs
      rcases h with ⟨h1, h2⟩ | ⟨c, rfl, z, hz, h1, h2, h3⟩
      · exact .inl ⟨s0, hs0, .inl ⟨h1, h2⟩⟩
      · rcases List.mem_append.1 hz with hz | hz
        · exact .inl ⟨s0, hs0, .inr ⟨c, rfl, z, hz, h1, h2, h3⟩⟩
        · rw [List.mem_singleton] at hz
          subst hz
          have h3 : (b : Int) = (y : Int) := h3
          exact .inr ⟨rfl, by omega, c, rfl, h1, h2⟩
    · rintro (⟨s, hs, h⟩ | ⟨_, rfl, c, rfl, h1, h2⟩)
      · rw [hs0] at hs
        injection hs with hs
        subst hs
        rcases h with ⟨h1, h2⟩ | ⟨c, rfl, z, hz, h1⟩
        · exact ⟨_, hs1, .inl ⟨h1, h2⟩⟩
        · exact ⟨_, hs1, .inr ⟨c, rfl, z, List.mem_append_left _ hz, h1⟩⟩
      · exact ⟨_, hs1, .inr ⟨c, rfl, _, List.mem_append_right _ (List.mem_singleton.2 rfl), h1, h2, rfl⟩⟩
  · unfold edgeL orE oneE
    rw [addArc_ne _ e]
    exact ⟨.inl, fun h => h.elim id fun h => absurd h.1.symm e⟩
theorem bare_edge {l : List Lst} (x : Nat) (t : List Nat) (y : Nat) : edgeL (l ++ [⟨false, [], []⟩]) x t y ↔ edgeL l x t y := by
  unfold edgeL
  by_cases h : x < l.length
  · rw [List.getElem?_append_left h]
  · rw [List.getElem?_append_right (by omega), List.getElem?_eq_none (l := l) (by omega)]
    constructor
    · rintro ⟨s, hs, h1⟩
      have hs := List.mem_of_getElem? hs
      rw [List.mem_singleton] at hs
      subst hs
      rcases h1 with ⟨_, h1⟩ | ⟨_, _, z, hz, _⟩
      · cases h1
      · cases hz
    · rintro ⟨s, hs, _⟩
      cases hs
theorem leadRow_len : ∀ (r : List (Int × Int)) (l : List Lst) (a b : Nat), (leadRow l a b r).length = l.length + (r.length - 1)
  | [], l, a, b => rfl
  | [x], l, a, b => addArc_len ..
  | x :: y :: r, l, a, b => by
    rw [leadRow, leadRow_len (y :: r), addArc_len, List.length_append]
    simp only [List.length_cons, List.length_nil]
    omega
/-- Edges stay within. -/
def InE (E : Edge) (n : Nat) : Prop := ∀ x t y, E x t y → x < n ∧ y < n
theorem InE.or {E F : Edge} {n : Nat} (h : InE E n) (h' : InE F n) : InE (orE E F) n := fun x t y k => k.elim (h x t y) (h' x t y)
theorem InE.more {E : Edge} {n m : Nat} (h : InE E n) (hm : n ≤ m) : InE E m := fun x t y k => ⟨Nat.lt_of_lt_of_le (h x t y k).1 hm, Nat.lt_of_lt_of_le (h x t y k).2 hm⟩
theorem InE.one {a b n : Nat} {P : List Nat → Prop} (ha : a < n) (hb : b < n) : InE (oneE a b P) n := by
  rintro x t y ⟨rfl, rfl, _⟩
  exact ⟨ha, hb⟩
theorem orE_iff {E E' F F' : Edge} (h : ∀ x t y, E x t y ↔ E' x t y) (h' : ∀ x t y, F x t y ↔ F' x t y) (x : Nat) (t : List Nat) (y : Nat) : orE E F x t y ↔ orE E' F' x t y := or_congr (h x t y) (h' x t y)
theorem leadRow_way : ∀ (r : List (Int × Int)) (l : List Lst) (a b : Nat) (X : Edge), r ≠ [] → a < l.length → b < l.length → InE (edgeL l) l.length → InE X l.length → ∀ {x z : Nat} {s : List Nat}, x < l.length → z < l.length →
    (Way (orE (edgeL (leadRow l a b r)) X) x s z ↔ Way (orE (edgeL l) (orE (oneE a b (fitN r)) X)) x s z)
  | [], l, a, b, X, h, _, _, _, _, _, _, _, _, _ => absurd rfl h
  | [p], l, a, b, X, _, ha, hb, _, _, x, z, s, _, _ => by
    refine Way.iff fun x t y => ?_
    rw [leadRow]
    show edgeL (addArc l a (p.1, p.2, (b : Int))) x t y ∨ X x t y ↔ edgeL l x t y ∨ (oneE a b (fitN [p]) x t y ∨ X x t y)
    rw [addArc_edge ha]
    have e : oneE a b (fun t => ∃ c : Nat, t = [c] ∧ p.1 ≤ (c : Int) ∧ (c : Int) ≤ p.2) x t y ↔ oneE a b (fitN [p]) x t y := by
      unfold oneE
      refine and_congr Iff.rfl (and_congr Iff.rfl ?_)
      constructor
      · rintro ⟨c, rfl, h1, h2⟩
        exact ⟨h1, h2, trivial⟩
      · intro h
        cases t with
        | nil => exact h.elim
        | cons c t =>
          cases t with
          | nil => exact ⟨c, rfl, h.1, h.2.1⟩
          | cons d t => exact h.2.2.elim
    unfold orE
    rw [e]
    constructor
    · rintro ((h | h) | h)
      · exact .inl h
      · exact .inr (.inl h)
      · exact .inr (.inr h)
    · rintro (h | h | h)
      · exact .inl (.inl h)
      · exact .inl (.inr h)
      · exact .inr h
  | p :: q :: r, l, a, b, X, _, ha, hb, hl, hX, x, z, s, hx, hz => by
    rw [leadRow]
    have hlen : (addArc (l ++ [⟨false, [], []⟩]) a (p.1, p.2, (l.length : Int))).length = l.length + 1 := by rw [addArc_len, List.length_append]; rfl
    have hedge : ∀ x t y, edgeL (addArc (l ++ [⟨false, [], []⟩]) a (p.1, p.2, (l.length : Int))) x t y ↔ orE (edgeL l) (oneE a l.length fun t => ∃ c : Nat, t = [c] ∧ p.1 ≤ (c : Int) ∧ (c : Int) ≤ p.2) x t y := fun x t y => by
      rw [addArc_edge (by rw [List.length_append]; omega)]
      exact orE_iff bare_edge (fun _ _ _ => Iff.rfl) x t y
    have hin : InE (edgeL (addArc (l ++ [⟨false, [], []⟩]) a (p.1, p.2, (l.length : Int)))) (l.length + 1) := fun x t y h => ((hl.more (Nat.le_succ _)).or (InE.one (by omega) (by omega))) x t y ((hedge x t y).1 h)
    rw [leadRow_way (q :: r) _ l.length b X (by simp) (by rw [hlen]; omega) (by rw [hlen]; omega) (by rw [hlen]; exact hin) (by rw [hlen]; exact hX.more (Nat.le_succ _)) (by rw [hlen]; omega) (by rw [hlen]; omega)]
    have h1 : Way (orE (edgeL (addArc (l ++ [⟨false, [], []⟩]) a (p.1, p.2, (l.length : Int)))) (orE (oneE l.length b (fitN (q :: r))) X)) x s z ↔ Way (orE (orE (orE (edgeL l) X) (oneE a l.length fun t => ∃ c : Nat, t = [c] ∧ p.1 ≤ (c : Int) ∧ (c : Int) ≤ p.2)) (oneE l.length b (fitN (q :: r)))) x s z := by
      refine Way.iff fun x t y => ?_
      show edgeL _ x t y ∨ (_ ∨ X x t y) ↔ ((edgeL l x t y ∨ X x t y) ∨ _) ∨ _
      rw [hedge]
      unfold orE
      constructor
      · rintro ((h | h) | h | h)
        · exact .inl (.inl (.inl h))
        · exact .inl (.inr h)
        · exact .inr h
        · exact .inl (.inl (.inr h))
      · rintro (((h | h) | h) | h)
        · exact .inl (.inl h)
        · exact .inr (.inr h)
        · exact .inl (.inr h)
        · exact .inr (.inl h)
    rw [h1, pass_way (fun x t y h => by have := (hl.or hX) x t y h; omega) (by omega) (by omega) (by omega) (by omega)]
    refine Way.iff fun x t y => ?_
    have e : oneE a b (fun t => ∃ u v, (∃ c : Nat, u = [c] ∧ p.1 ≤ (c : Int) ∧ (c : Int) ≤ p.2) ∧ fitN (q :: r) v ∧ t = u ++ v) x t y ↔ oneE a b (fitN (p :: q :: r)) x t y := by
      unfold oneE
      refine and_congr Iff.rfl (and_congr Iff.rfl ?_)
      constructor
      · rintro ⟨_, v, ⟨c, rfl, h1, h2⟩, h3, rfl⟩
        exact ⟨h1, h2, h3⟩
      · intro h
        cases t with
        | nil => exact h.elim
        | cons c t => exact ⟨[c], t, ⟨c, rfl, h.1, h.2.1⟩, h.2.2, rfl⟩
    show (edgeL l x t y ∨ X x t y) ∨ _ ↔ edgeL l x t y ∨ (_ ∨ X x t y)
    rw [e]
    constructor
    · rintro ((h | h) | h)
      · exact .inl h
      · exact .inr (.inr h)
      · exact .inr (.inl h)
    · rintro (h | h | h)
      · exact .inl (.inl h)
      · exact .inr h
      · exact .inl (.inr h)
theorem leadRow_in : ∀ (r : List (Int × Int)) (l : List Lst) (a b : Nat), a < l.length → b < l.length → InE (edgeL l) l.length → InE (edgeL (leadRow l a b r)) (leadRow l a b r).length
  | [], l, a, b, _, _, hl => hl
  | [p], l, a, b, ha, hb, hl => by
    rw [leadRow, addArc_len]
    exact fun x t y h => (hl.or (InE.one ha hb)) x t y ((addArc_edge ha x t y).1 h)
  | p :: q :: r, l, a, b, ha, hb, hl => by
    rw [leadRow]
    have hlen : (addArc (l ++ [⟨false, [], []⟩]) a (p.1, p.2, (l.length : Int))).length = l.length + 1 := by rw [addArc_len, List.length_append]; rfl
    refine leadRow_in (q :: r) _ l.length b (by rw [hlen]; omega) (by rw [hlen]; omega) ?_
    rw [hlen]
    intro x t y h
    rw [addArc_edge (by rw [List.length_append]; omega)] at h
    have h := (orE_iff bare_edge (fun _ _ _ => Iff.rfl) x t y).1 h
    exact ((hl.more (Nat.le_succ _)).or (InE.one (by omega) (by omega))) x t y h
/-- All rows between two states. -/
def leadRows (l : List Lst) (a b : Nat) (rs : List (List (Int × Int))) : List Lst := rs.foldl (fun l r => leadRow l a b r) l
theorem leadRows_way : ∀ (rs : List (List (Int × Int))) (l : List Lst) (a b : Nat) (X : Edge), (∀ r ∈ rs, r ≠ []) → a < l.length → b < l.length → InE (edgeL l) l.length → InE X l.length → ∀ {x z : Nat} {s : List Nat}, x < l.length → z < l.length →
    (Way (orE (edgeL (leadRows l a b rs)) X) x s z ↔ Way (orE (edgeL l) (orE (oneE a b fun t => ∃ r ∈ rs, fitN r t) X)) x s z)
  | [], l, a, b, X, _, _, _, _, _, x, z, s, _, _ => by
    refine Way.iff fun x t y => ?_
    show edgeL l x t y ∨ X x t y ↔ edgeL l x t y ∨ (_ ∨ X x t y)
    constructor
    · rintro (h | h)
      · exact .inl h
      · exact .inr (.inr h)
    · rintro (h | ⟨_, _, r, hr, _⟩ | h)
      · exact .inl h
      · cases hr
      · exact .inr h
  | r :: rs, l, a, b, X, hne, ha, hb, hl, hX, x, z, s, hx, hz => by
    have hlen := leadRow_len r l a b
    show Way (orE (edgeL (leadRows (leadRow l a b r) a b rs)) X) x s z ↔ _
    rw [leadRows_way rs (leadRow l a b r) a b X (fun q hq => hne q (List.mem_cons_of_mem _ hq)) (by omega) (by omega) (leadRow_in r l a b ha hb hl) (hX.more (by omega)) (by omega) (by omega),
      leadRow_way r l a b _ (hne r (List.mem_cons_self ..)) ha hb hl ((InE.one ha hb).or hX) hx hz]
    refine Way.iff fun x t y => ?_
    show edgeL l x t y ∨ (oneE a b (fitN r) x t y ∨ (oneE a b _ x t y ∨ X x t y)) ↔ edgeL l x t y ∨ (oneE a b _ x t y ∨ X x t y)
    constructor
    · rintro (h | ⟨h1, h2, h3⟩ | ⟨h1, h2, q, h3, h4⟩ | h)
      · exact .inl h
      · exact .inr (.inl ⟨h1, h2, r, List.mem_cons_self .., h3⟩)
      · exact .inr (.inl ⟨h1, h2, q, List.mem_cons_of_mem _ h3, h4⟩)
      · exact .inr (.inr h)
    · rintro (h | ⟨h1, h2, q, h3, h4⟩ | h)
      · exact .inl h
      · rcases List.mem_cons.1 h3 with rfl | h3
        · exact .inr (.inl ⟨h1, h2, h4⟩)
        · exact .inr (.inr (.inl ⟨h1, h2, q, h3, h4⟩))
      · exact .inr (.inr (.inr h))
end Go.Proofs.YtclahhkcbkpofaaDoor
