/- A range's characters between two states: which texts are taken, how few sets are met (plain Lean). -/
import Derived.Test.YtclahhkcbkpofaaDoorHFz19
import Derived.Test.YtclahhkcbkpofaaDoorHFz1
import Derived.Test.YtclahhkcbkpofaaDoorHFz16
import Derived.Test.YtclahhkcbkpofaaDoorHFz13
import Derived.Test.YtclahhkcbkpofaaDoorHFz10
import Derived.Test.YtclahhkcbkpofaaDoorHFz14
import Derived.Test.YtclahhkcbkpofaaDoorHFz11
import Derived.Test.YtclahhkcbkpofaaDoorHFz5
import Derived.Test.YtclahhkcbkpofaaDoorHFz9
namespace Go.Proofs.YtclahhkcbkpofaaDoor
open Sp
def noE : Edge := fun _ _ _ => False
theorem noE_way {E : Edge} {x y : Nat} {t : List Nat} : Way (orE E noE) x t y ↔ Way E x t y := Way.iff fun _ _ _ => ⟨fun h => h.elim id False.elim, .inl⟩
theorem noE_in (n : Nat) : InE noE n := fun _ _ _ h => h.elim
theorem orE_no {E F : Edge} {x y : Nat} {t : List Nat} : Way (orE E (orE F noE)) x t y ↔ Way (orE E F) x t y := Way.iff fun _ _ _ => ⟨fun h => h.elim .inl fun h => h.elim .inr False.elim, fun h => h.elim .inl fun h => .inr (.inl h)⟩
/-! ### Which states are final -/
theorem addArc_fin (l : List Lst) (x : Nat) (a : Arc3) : (addArc l x a).map (·.fin) = l.map (·.fin) := by
  apply List.ext_getElem?
  intro j
  rw [List.getElem?_map, List.getElem?_map]
  by_cases e : x = j
  · subst e
    cases h : l[x]? with
    | none =>
      rw [List.getElem?_eq_none (by rw [addArc_len]; exact List.getElem?_eq_none_iff.1 h)]
    | some s => rw [addArc_at _ h]; rfl
  · rw [addArc_ne _ e]
theorem leadRow_fin : ∀ (r : List (Int × Int)) (l : List Lst) (a b : Nat), (leadRow l a b r).map (·.fin) = l.map (·.fin) ++ List.replicate (r.length - 1) false
  | [], l, a, b => by simp [leadRow]
  | [p], l, a, b => by
    have := addArc_fin l a (p.1, p.2, (b : Int))
    simp [leadRow, this]
  | p :: q :: r, l, a, b => by
    rw [leadRow, leadRow_fin (q :: r), addArc_fin, List.map_append, List.append_assoc]
    simp only [List.length_cons, Nat.add_sub_cancel, List.map_cons, List.map_nil]
    rfl
theorem leadRows_fin : ∀ (rs : List (List (Int × Int))) (l : List Lst) (a b : Nat), (leadRows l a b rs).map (·.fin) = l.map (·.fin) ++ List.replicate (midsN rs) false
  | [], l, a, b => by simp [leadRows, midsN]
  | r :: rs, l, a, b => by
    show (leadRows (leadRow l a b r) a b rs).map (·.fin) = _
    rw [leadRows_fin rs, leadRow_fin, List.append_assoc, midsN, List.replicate_append_replicate]
theorem fin_iff {l : List Lst} {a b : Nat} {rs : List (List (Int × Int))} {z : Nat} : (∃ s, (leadRows l a b rs)[z]? = some s ∧ s.fin = true) ↔ ∃ s, l[z]? = some s ∧ s.fin = true := by
  have k : ∀ (m : List Lst), (∃ s, m[z]? = some s ∧ s.fin = true) ↔ (m.map (·.fin))[z]? = some true := fun m => by
    rw [List.getElem?_map]
    exact Option.map_eq_some_iff.symm
  rw [k, k, leadRows_fin]
  by_cases h : z < (l.map (·.fin)).length
  · rw [List.getElem?_append_left h]
  · rw [List.getElem?_append_right (by omega), List.getElem?_eq_none (l := l.map (·.fin)) (by omega), List.getElem?_replicate]
    split
    · simp
    · simp
end Go.Proofs.YtclahhkcbkpofaaDoor
/- The loops of a function's body, in their order: to prove a loop as a theorem of its own. -/
namespace Go.Proofs.YtclahhkcbkpofaaDoor
def loopsC : Code → List Code
  | .loop c => c :: loopsC c
  | .seq a b => loopsC a ++ loopsC b
  | .block _ c => loopsC c
  | .scope c => loopsC c
  | .cond _ a b => loopsC a ++ loopsC b
  | _ => []
noncomputable def loopOf (f : Func) (k : Nat) : Code := ((loopsC (f.body.getD .skip))[k]?).getD .skip
/-- A region of a function's body, by its number. -/
def regC (k : Nat) : Code → Option Code
  | .region i o d => if i == k then some (.region i o d) else none
  | .seq a b => match regC k a with
    | some c => some c
    | none => regC k b
  | .cond _ a b => match regC k a with
    | some c => some c
    | none => regC k b
  | .block _ c => regC k c
  | .loop c => regC k c
  | .scope c => regC k c
  | _ => none
noncomputable def regOf (f : Func) (k : Nat) : Code := (f.body.bind (regC k)).getD .skip
end Go.Proofs.YtclahhkcbkpofaaDoor
/- The inner loop of the reference's Spread. -/
namespace Go.Proofs.YtclahhkcbkpofaaDoor
open Go.RowKit Go.Maps
/-- The row of bools of a set in the making. -/
structure SpR (w W : World) (ob oc n : Nat) (L : List Bool) : Prop where
  own : W.ownsRow w.heap.size 4 1 (.slice (some ⟨ob, 0, none⟩) n oc) n (L.map .bool)
  bel : Below w.heap.size w W
theorem SpR.keep {w W W' : World} {ob oc n : Nat} {L : List Bool} (h : SpR w W ob oc n L) (hb : Below W.heap.size W W') : SpR w W' ob oc n L := ⟨own_kept h.own hb, bcall h.bel hb⟩
theorem SpR.get {w W : World} {ob oc n : Nat} {L : List Bool} (h : SpR w W ob oc n L) {t : Nat} {b : Bool} (hf : L[t]? = some b) : W.cell? ⟨ob, t, none⟩ = some (.bool b) := own_cell h.own (by rw [List.getElem?_map, hf]; rfl)
theorem SpR.len {w W : World} {ob oc n : Nat} {L : List Bool} (h : SpR w W ob oc n L) : L.length = n := by
  have := h.own.1
  rw [List.length_map] at this
  omega
theorem SpR.cap {w W : World} {ob oc n : Nat} {L : List Bool} (h : SpR w W ob oc n L) : n ≤ oc := by
  obtain ⟨A1, c1, e1, h1⟩ := own_shape h.own
  injection e1 with _ _ e1
  omega
theorem SpR.set {w W : World} {ob oc n : Nat} {L : List Bool} (h : SpR w W ob oc n L) (t : Nat) (b : Bool) : SpR w (W.setCell ⟨ob, t, none⟩ (.bool b)) ob oc n (L.set t b) ∧ W.frozen? ⟨ob, t, none⟩ = false ∧ ob < W.heap.size := by
  obtain ⟨q1, q2, cs, q3⟩ := own_blk h.own
  refine ⟨⟨?_, below_set h.bel q1 (Nat.le_refl _)⟩, free_at q3 _, q2⟩
  rw [List.map_set]
  exact own_put h.own
end Go.Proofs.YtclahhkcbkpofaaDoor
/- Where a byte leads from a set, in the making (plain Lean). -/
namespace Go.Proofs.YtclahhkcbkpofaaDoor
/-- Where a byte leads by the states ahead of the i-th and the first k arcs of that. -/
def OvT (l : List Lst) (B : List Bool) (c : Int) (i k x : Nat) : Prop := ∃ (z : Nat) (s : Lst), B[z]? = some true ∧ l[z]? = some s ∧ ((z < i ∧ ∃ a ∈ s.arcs, a.1 ≤ c ∧ c ≤ a.2.1 ∧ a.2.2 = (x : Int)) ∨ (z = i ∧ ∃ a ∈ s.arcs.take k, a.1 ≤ c ∧ c ≤ a.2.1 ∧ a.2.2 = (x : Int)))
structure OvR (l : List Lst) (B : List Bool) (c : Int) (L : List Bool) (i k : Nat) : Prop where
  len : L.length = l.length
  iff : ∀ x : Nat, L[x]? = some true ↔ OvT l B c i k x
theorem OvR.start (l : List Lst) (B : List Bool) (c : Int) : OvR l B c (List.replicate l.length false) 0 0 := by
  refine ⟨List.length_replicate, fun x => ⟨fun h => ?_, fun h => ?_⟩⟩
  · rw [List.getElem?_replicate] at h
    split at h <;> cases h
  · obtain ⟨z, s, _, _, h1 | ⟨_, a, ha, _⟩⟩ := h
    · omega
    · simp at ha
section
variable {l : List Lst} {B L : List Bool} {c : Int} {i k : Nat} {s : Lst} {a : Arc3}
theorem OvT.one (hs : l[i]? = some s) (hb : B[i]? = some true) (ha : s.arcs[k]? = some a) (x : Nat) : OvT l B c i (k + 1) x ↔ OvT l B c i k x ∨ (a.1 ≤ c ∧ c ≤ a.2.1 ∧ a.2.2 = (x : Int)) := by
  have ht : s.arcs.take (k + 1) = s.arcs.take k ++ [a] := by rw [List.take_add_one, ha]; rfl
  constructor
  · rintro ⟨z, s', h1, h2, h3 | ⟨rfl, b, hb', h4⟩⟩
    · exact .inl ⟨z, s', h1, h2, .inl h3⟩
    · rw [hs] at h2
      injection h2 with h2
      subst h2
      rw [ht] at hb'
      rcases List.mem_append.1 hb' with hb' | hb'
      · exact .inl ⟨z, s, h1, hs, .inr ⟨rfl, b, hb', h4⟩⟩
      · rw [List.mem_singleton.1 hb'] at h4
        exact .inr h4
  · rintro (⟨z, s', h1, h2, h3 | ⟨rfl, b, hb', h4⟩⟩ | h4)
    · exact ⟨z, s', h1, h2, .inl h3⟩
    · rw [hs] at h2
      injection h2 with h2
      subst h2
      exact ⟨z, s, h1, hs, .inr ⟨rfl, b, by rw [ht]; exact List.mem_append_left _ hb', h4⟩⟩
    · exact ⟨i, s, hb, hs, .inr ⟨rfl, a, by rw [ht]; exact List.mem_append_right _ (List.mem_singleton.2 rfl), h4⟩⟩
theorem OvR.skip (h : OvR l B c L i k) (hs : l[i]? = some s) (hb : B[i]? = some true) (ha : s.arcs[k]? = some a) (hn : ¬ (a.1 ≤ c ∧ c ≤ a.2.1)) : OvR l B c L i (k + 1) := by
  refine ⟨h.len, fun x => ?_⟩
  rw [OvT.one hs hb ha, h.iff]
  exact ⟨.inl, fun h => h.elim id fun h => absurd ⟨h.1, h.2.1⟩ hn⟩
theorem OvR.take {t : Nat} (h : OvR l B c L i k) (hs : l[i]? = some s) (hb : B[i]? = some true) (ha : s.arcs[k]? = some a) (hn : a.1 ≤ c ∧ c ≤ a.2.1) (ht : a.2.2 = (t : Int)) (htl : t < l.length) : OvR l B c (L.set t true) i (k + 1) := by
  refine ⟨by rw [List.length_set]; exact h.len, fun x => ?_⟩
  rw [OvT.one hs hb ha, ← h.iff, List.getElem?_set]
  by_cases e : t = x
  · subst e
    rw [if_pos rfl, if_pos (by rw [h.len]; exact htl)]
    exact ⟨fun _ => .inr ⟨hn.1, hn.2, ht⟩, fun _ => rfl⟩
  · rw [if_neg e]
    exact ⟨.inl, fun h => h.elim id fun h => absurd (by have := h.2.2; omega) e⟩
theorem OvR.next (h : OvR l B c L i k) (he : ∀ s, l[i]? = some s → B[i]? = some true → s.arcs.length ≤ k) : OvR l B c L (i + 1) 0 := by
  refine ⟨h.len, fun x => ?_⟩
  rw [h.iff]
  constructor
  · rintro ⟨z, s, h1, h2, ⟨h3, h4⟩ | ⟨rfl, b, hb, h4⟩⟩
    · exact ⟨z, s, h1, h2, .inl ⟨by omega, h4⟩⟩
    · exact ⟨z, s, h1, h2, .inl ⟨by omega, b, List.mem_of_mem_take hb, h4⟩⟩
  · rintro ⟨z, s, h1, h2, ⟨h3, h4⟩ | ⟨_, b, hb, _⟩⟩
    · by_cases e : z < i
      · exact ⟨z, s, h1, h2, .inl ⟨e, h4⟩⟩
      · obtain rfl : z = i := by omega
        obtain ⟨a, ha, h5⟩ := h4
        exact ⟨z, s, h1, h2, .inr ⟨rfl, a, by rw [List.take_of_length_le (he s h2 h1)]; exact ha, h5⟩⟩
    · simp at hb
end
theorem OvR.done {l : List Lst} {B L : List Bool} {c : Nat} (h : OvR l B (c : Int) L l.length 0) : (fun y : Nat => L[y]? = some true) = ovP l (fun y => B[y]? = some true) c := by
  funext x
  apply propext
  show L[x]? = some true ↔ _
  rw [h.iff]
  constructor
  · rintro ⟨z, s, h1, h2, ⟨h3, h4⟩ | ⟨_, b, hb, _⟩⟩
    · exact ⟨z, s, h1, h2, h4⟩
    · simp at hb
  · rintro ⟨z, s, h1, h2, h4⟩
    exact ⟨z, s, h1, h2, .inl ⟨(List.getElem?_eq_some_iff.1 h2).1, h4⟩⟩
end Go.Proofs.YtclahhkcbkpofaaDoor
/- The reference's Takes. -/
namespace Go.Proofs.YtclahhkcbkpofaaDoor
open Go.RowKit Go.Maps
/-- The set that a loose automaton is in behind some bytes. -/
def runZ (l : List Lst) (s : List Nat) : Nat → Prop := runP l (Clo l fun x => x = 0) s
/-- A loose automaton takes a text, by sets. -/
noncomputable def looseTakes (l : List Lst) (t : List UInt8) : Bool := endB l (runZ l (bytesN t))
end Go.Proofs.YtclahhkcbkpofaaDoor
/- The least automaton takes what its state takes, and is an automaton (plain Lean). -/
namespace Go.Proofs.YtclahhkcbkpofaaDoor
/-- States that take nothing need not be entered. -/
theorem acc_live {σ : Type} (M : Au σ) : ∀ (s : List Nat) (x : σ), (⟨M.fin, M.stepL⟩ : Au σ).acc x s = M.acc x s
  | [], x => rfl
  | c :: r, x => by
    rw [Au.acc, Au.acc]
    by_cases hc : c < 256
    · rw [if_pos hc, if_pos hc]
      show (match M.stepL x c with | some y => _ | none => _) = _
      unfold Au.stepL
      cases hx : M.step x c with
      | none => rfl
      | some y =>
        simp only
        by_cases hl : M.live y
        · rw [if_pos hl]
          exact acc_live M r y
        · rw [if_neg hl]
          simp only
          cases ha : M.acc y r with
          | false => rfl
          | true => exact absurd ⟨r, ha⟩ hl
    · rw [if_neg hc, if_neg hc]
open Classical in
theorem LeastIs.leq {σ : Type} {M : Au σ} {x : σ} {out : List St} (h : LeastIs M x out) : Leq (auOf out) 0 M x := by
  rcases h with ⟨hl, r, hr, f, hf, rfl⟩ | ⟨hl, rfl⟩
  · intro s
    have hrefl : ∀ y, (leastW M r).eqv ((leastW M r).rep y) y = true := fun y => decide_eq_true (hr y)
    have hh := run_head (leastW M r) x f
    have := out_leq (leastW M r) M.fin (met := (leastW M r).run f 0 [x]) (fun z y hzy => fun s => by
      have hzy : Leq M z M y := of_decide_eq_true hzy
      exact (acc_live M s z).trans ((hzy s).trans (acc_live M s y).symm)) (fun y hy => by
      obtain ⟨j, hj⟩ := List.mem_iff_getElem?.1 hy
      have h1 := (List.getElem?_eq_some_iff.1 hj).1
      have h2 := List.getElem?_eq_none_iff.1 hf
      exact Bfs.run_met _ hrefl x f j y (by omega) hj) s 0 x hh
    exact this.trans (acc_live M s x)
  · intro s
    have : M.acc x s = false := by
      cases ha : M.acc x s with
      | false => rfl
      | true => exact absurd ⟨s, ha⟩ hl
    rw [this]
    cases s with
    | nil => rfl
    | cons c r =>
      rw [Au.acc]
      split
      · rfl
      · rfl
theorem LeastIs.ne {σ : Type} {M : Au σ} {x : σ} {out : List St} (h : LeastIs M x out) : 0 < out.length := by
  rcases h with ⟨hl, r, hr, f, hf, rfl⟩ | ⟨hl, rfl⟩
  · have hh := (List.getElem?_eq_some_iff.1 (run_head (leastW M r) x f)).1
    unfold leastOf Bfs.out
    rw [List.length_map]
    exact hh
  · exact Nat.zero_lt_one
theorem LeastIs.good {σ : Type} {M : Au σ} {x : σ} {out : List St} (h : LeastIs M x out) (hl : out.length ≤ 20000) : Good out := by
  have hn := h.ne
  rcases h with ⟨_, r, hr, f, hf, rfl⟩ | ⟨_, rfl⟩
  · have hh := (List.getElem?_eq_some_iff.1 (run_head (leastW M r) x f)).1
    refine out_good _ _ (fun e => ?_) (by unfold leastOf Bfs.out at hl; rwa [List.length_map] at hl)
    rw [e] at hh
    cases hh
  · exact (good_iff _).1 (by decide)
end Go.Proofs.YtclahhkcbkpofaaDoor
/- Loose states that a range's characters lead through are such again; their texts (plain Lean, but for the contracts' words). -/
namespace Go.Proofs.YtclahhkcbkpofaaDoor
open Go.RowKit
open Sp
theorem LGood.arc_add {l : List Lst} {a b : Nat} {lo hi : Int} (h : LGood l) (hb : b < l.length) (h0 : 0 ≤ lo) (h1 : lo ≤ hi) (h2 : hi ≤ 255) : LGood (addArc l a (lo, hi, (b : Int))) := by
  have hlen := addArc_len l a (lo, hi, (b : Int))
  have key : ∀ s ∈ addArc l a (lo, hi, (b : Int)), ∃ s0 ∈ l, s.free = s0.free ∧ ∀ z ∈ s.arcs, z ∈ s0.arcs ∨ z = (lo, hi, (b : Int)) := by
    intro s hs
    obtain ⟨j, hj⟩ := List.mem_iff_getElem?.1 hs
    by_cases e : a = j
    · subst e
      have hja : a < l.length := by rw [← hlen]; exact (List.getElem?_eq_some_iff.1 hj).1
      rw [addArc_at _ (List.getElem?_eq_getElem hja)] at hj
      injection hj with hj
      subst hj
      refine ⟨l[a], List.getElem_mem _, rfl, fun z hz => ?_⟩
      rcases List.mem_append.1 hz with hz | hz
      · exact .inl hz
      · exact .inr (List.mem_singleton.1 hz)
    · rw [addArc_ne _ e] at hj
      exact ⟨s, List.mem_of_getElem? hj, rfl, fun z hz => .inl hz⟩
  refine ⟨fun e => ?_, fun s hs z hz => ?_, fun s hs t ht => ?_⟩
  · have := congrArg List.length e
    rw [hlen, List.length_nil] at this
    omega
  · obtain ⟨s0, hs0, _, k⟩ := key s hs
    rw [hlen]
    rcases k z hz with hz | rfl
    · exact h.arc s0 hs0 z hz
    · exact ⟨h0, h1, h2, by show 0 ≤ (b : Int); omega, by show (b : Int) < _; omega⟩
  · obtain ⟨s0, hs0, k, _⟩ := key s hs
    rw [hlen]
    exact h.fre s0 hs0 t (by rw [← k]; exact ht)
theorem LGood.bare {l : List Lst} (h : LGood l) : LGood (l ++ [⟨false, [], []⟩]) := by
  have hlen : ((l ++ [⟨false, [], []⟩] : List Lst).length : Int) = (l.length : Int) + 1 := by rw [List.length_append]; rfl
  refine ⟨by simp, fun s hs z hz => ?_, fun s hs t ht => ?_⟩
  · rcases List.mem_append.1 hs with hs | hs
    · have := h.arc s hs z hz
      omega
    · rw [List.mem_singleton] at hs
      subst hs
      cases hz
  · rcases List.mem_append.1 hs with hs | hs
    · have := h.fre s hs t ht
      omega
    · rw [List.mem_singleton] at hs
      subst hs
      cases ht
theorem LGood.row : ∀ (r : List (Int × Int)) {l : List Lst} {a b : Nat}, LGood l → b < l.length → (∀ p ∈ r, 0 ≤ p.1 ∧ p.1 ≤ p.2 ∧ p.2 ≤ 255) → LGood (leadRow l a b r)
  | [], _, _, _, h, _, _ => h
  | [p], l, a, b, h, hb, hr => by
    obtain ⟨h0, h1, h2⟩ := hr p (List.mem_cons_self ..)
    exact h.arc_add hb h0 h1 h2
  | p :: q :: r, l, a, b, h, hb, hr => by
    obtain ⟨h0, h1, h2⟩ := hr p (List.mem_cons_self ..)
    rw [leadRow]
    refine LGood.row (q :: r) (h.bare.arc_add (b := l.length) ?_ h0 h1 h2) ?_ fun z hz => hr z (List.mem_cons_of_mem _ hz)
    · rw [List.length_append]; simp
    · rw [addArc_len, List.length_append]; omega
theorem LGood.rows : ∀ (rs : List (List (Int × Int))) {l : List Lst} {a b : Nat}, LGood l → b < l.length → (∀ r ∈ rs, ∀ p ∈ r, 0 ≤ p.1 ∧ p.1 ≤ p.2 ∧ p.2 ≤ 255) → LGood (leadRows l a b rs)
  | [], _, _, _, h, _, _ => h
  | r :: rs, l, a, b, h, hb, hr => by
    show LGood (leadRows (leadRow l a b r) a b rs)
    exact LGood.rows rs (h.row r hb (hr r (List.mem_cons_self ..))) (by rw [leadRow_len]; omega) fun q hq => hr q (List.mem_cons_of_mem _ hq)
/-- A character's bytes, as the reference's and as texts. -/
theorem chars_bytes {c : Int} (hw : wholeB c = true) : ∃ t : List UInt8, strOfNums (encC c) = ⟨t.toArray⟩ ∧ bytesN t = encN c ∧ t.length ≤ 4 ∧ t ≠ [] := by
  have hz : ∀ z ∈ encC c, 0 ≤ z ∧ z ≤ 255 := by
    have hw1 := whole_of hw
    rcases @enc_case c with ⟨a, e⟩ | ⟨a, b, e⟩ | ⟨a, b, e⟩ | ⟨a, e⟩
    all_goals
      rw [e]
      intro z hz
      simp only [List.mem_cons, List.not_mem_nil, or_false] at hz
    · omega
    · rcases hz with rfl | rfl <;> omega
    · rcases hz with rfl | rfl | rfl <;> omega
    · rcases hz with rfl | rfl | rfl | rfl <;> omega
  refine ⟨(encC c).map fun n => UInt8.ofNat n.toNat, rfl, ?_, by rw [List.length_map]; exact (encC_len c).2, fun e => ?_⟩
  · unfold bytesN encN
    rw [List.map_map]
    refine List.map_congr_left fun z h => ?_
    have h1 := hz z h
    show (UInt8.ofNat z.toNat).toNat = z.toNat
    rw [UInt8.toNat_ofNat']
    exact Nat.mod_eq_of_lt (by omega)
  · have h1 := congrArg List.length e
    have h2 := (encC_len c).1
    rw [List.length_map, List.length_nil] at h1
    omega
theorem tight_takes {l : List Lst} {dd out : List St} (hl : LeastIs (auOf dd) 0 out) (hq : Leq (auOf dd) 0 ⟨finS l, stepS l⟩ (setL l.length (Clo l fun x => x = 0))) (hlen : out.length ≤ 20000) (t : List UInt8) : takesB out t = looseTakes l t := by
  have hg := hl.good hlen
  unfold takesB
  rw [decide_eq_true ((good_iff _).2 hg), Bool.true_and, (hl.leq.trans hq) (bytesN t), acc_run l (bytesN t) _ fun c hc => by
    unfold bytesN at hc
    obtain ⟨b, _, rfl⟩ := List.mem_map.1 hc
    exact b.toNat_lt]
  rfl
end Go.Proofs.YtclahhkcbkpofaaDoor
/- Characters' ranges one behind another as an automaton: which texts lead where (plain Lean). -/
namespace Go.Proofs.YtclahhkcbkpofaaDoor
open Sp
theorem OkR.ne {rs : List (List (Int × Int))} {rss : Rowss} (h : OkR (rs :: rss)) : ∀ r ∈ rs, r ≠ [] := by
  obtain ⟨lo, hi, rfl⟩ := h.head
  exact all_ne lo hi
theorem orE_swap {E A B X : Edge} {x z : Nat} {s : List Nat} : Way (orE E (orE A (orE B X))) x s z ↔ Way (orE E (orE (orE A B) X)) x s z := Way.iff fun _ _ _ =>
  ⟨fun h => h.elim .inl fun h => h.elim (fun h => .inr (.inl (.inl h))) fun h => h.elim (fun h => .inr (.inl (.inr h))) fun h => .inr (.inr h),
   fun h => h.elim .inl fun h => h.elim (fun h => h.elim (fun h => .inr (.inl h)) fun h => .inr (.inr (.inl h))) fun h => .inr (.inr (.inr h))⟩
end Go.Proofs.YtclahhkcbkpofaaDoor
/- Patterns as automata: bounds and stages (plain Lean). -/
namespace Go.Proofs.YtclahhkcbkpofaaDoor
open Sp
/-! ### How long the states' lists are -/
def FewS (K : Nat) (l : List Lst) : Prop := ∀ s ∈ l, s.arcs.length ≤ K ∧ s.free.length ≤ 0
theorem FewS.more {K K' : Nat} {l : List Lst} (h : FewS K l) (hk : K ≤ K') : FewS K' l := fun s hs => ⟨Nat.le_trans (h s hs).1 hk, (h s hs).2⟩
theorem FewS.add {K : Nat} {l : List Lst} (h : FewS K l) (a : Nat) (z : Arc3) : FewS (K + 1) (addArc l a z) := fun s hs => by
  obtain ⟨j, hj⟩ := List.mem_iff_getElem?.1 hs
  by_cases e : a = j
  · subst e
    have hja : a < l.length := by rw [← addArc_len l a z]; exact (List.getElem?_eq_some_iff.1 hj).1
    rw [addArc_at _ (List.getElem?_eq_getElem hja)] at hj
    injection hj with hj
    subst hj
    have := h l[a] (List.getElem_mem _)
    refine ⟨?_, this.2⟩
    rw [List.length_append, List.length_singleton]
    omega
  · rw [addArc_ne _ e] at hj
    have := h s (List.mem_of_getElem? hj)
    exact ⟨by omega, this.2⟩
theorem FewS.bare {K : Nat} {l : List Lst} (h : FewS K l) : FewS K (l ++ [⟨false, [], []⟩]) := fun s hs => by
  rcases List.mem_append.1 hs with hs | hs
  · exact h s hs
  · rw [List.mem_singleton.1 hs]
    exact ⟨Nat.zero_le _, Nat.zero_le _⟩
theorem FewS.row : ∀ (r : List (Int × Int)) {K : Nat} {l : List Lst} (a b : Nat), FewS K l → FewS (K + r.length) (leadRow l a b r)
  | [], _, _, _, _, h => h
  | [p], _, _, a, b, h => h.add a _
  | p :: q :: r, K, l, a, b, h => by
    have := FewS.row (q :: r) l.length b ((h.bare).add a (p.1, p.2, (l.length : Int)))
    rw [List.length_cons, show K + ((q :: r).length + 1) = K + 1 + (q :: r).length by omega]
    exact this
theorem FewS.rows : ∀ (rs : List (List (Int × Int))) {K : Nat} {l : List Lst} (a b : Nat), (∀ r ∈ rs, r.length ≤ 4) → FewS K l → FewS (K + 4 * rs.length) (leadRows l a b rs)
  | [], _, _, _, _, _, h => h
  | r :: rs, K, l, a, b, hr, h => by
    show FewS _ (leadRows (leadRow l a b r) a b rs)
    have h1 := hr r (List.mem_cons_self ..)
    have h2 := FewS.rows rs a b (fun q hq => hr q (List.mem_cons_of_mem _ hq)) (h.row r a b)
    exact h2.more (by rw [List.length_cons]; omega)
end Go.Proofs.YtclahhkcbkpofaaDoor
