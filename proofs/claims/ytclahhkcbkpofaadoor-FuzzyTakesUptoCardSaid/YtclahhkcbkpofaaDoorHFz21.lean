/- Ranges of characters between any states: which texts lead where (plain Lean). -/
import Derived.Test.YtclahhkcbkpofaaDoorHFz20
namespace Go.Proofs.YtclahhkcbkpofaaDoor
open Sp
/-- From a state to another, the characters of a range. -/
abbrev Ld := Nat × Nat × Int × Int
def leadsL : List Lst → List Ld → List Lst
  | l, [] => l
  | l, e :: es => leadsL (leadRows l e.1 e.2.1 (allP e.2.2.1 e.2.2.2)) es
def esE (es : List Ld) : Edge := fun x t y => ∃ e ∈ es, x = e.1 ∧ y = e.2.1 ∧ ∃ r ∈ allP e.2.2.1 e.2.2.2, fitN r t
def offM : Nat → List Ld → Nat → Nat
  | N, e :: es, k + 1 => offM (N + midsN (allP e.2.2.1 e.2.2.2)) es k
  | N, _, _ => N
theorem offM_ge : ∀ {es : List Ld} {N k : Nat}, N ≤ offM N es k
  | [], _, k => by cases k <;> exact Nat.le_refl _
  | _ :: _, _, 0 => Nat.le_refl _
  | e :: es, N, k + 1 => Nat.le_trans (Nat.le_add_right N (midsN (allP e.2.2.1 e.2.2.2))) (offM_ge (es := es) (k := k))
def OkE (n : Nat) (es : List Ld) : Prop := ∀ e ∈ es, e.1 < n ∧ e.2.1 < n
theorem OkE.more {n m : Nat} {es : List Ld} (h : OkE n es) (hm : n ≤ m) : OkE m es := fun e he => ⟨Nat.lt_of_lt_of_le (h e he).1 hm, Nat.lt_of_lt_of_le (h e he).2 hm⟩
theorem OkE.tail {n : Nat} {e : Ld} {es : List Ld} (h : OkE n (e :: es)) : OkE n es := fun x hx => h x (List.mem_cons_of_mem _ hx)
theorem esE_in {n : Nat} {es : List Ld} (h : OkE n es) : InE (esE es) n := by
  rintro x t y ⟨e, he, rfl, rfl, _⟩
  exact h e he
theorem esE_cons {e : Ld} {es : List Ld} {x y : Nat} {t : List Nat} : esE (e :: es) x t y ↔ oneE e.1 e.2.1 (fun t => ∃ r ∈ allP e.2.2.1 e.2.2.2, fitN r t) x t y ∨ esE es x t y := by
  unfold esE oneE
  constructor
  · rintro ⟨d, hd, h1, h2, h3⟩
    rcases List.mem_cons.1 hd with rfl | hd
    · exact .inl ⟨h1, h2, h3⟩
    · exact .inr ⟨d, hd, h1, h2, h3⟩
  · rintro (⟨h1, h2, h3⟩ | ⟨d, hd, h⟩)
    · exact ⟨e, List.mem_cons_self .., h1, h2, h3⟩
    · exact ⟨d, List.mem_cons_of_mem _ hd, h⟩
theorem esE_way {E X : Edge} {e : Ld} {es : List Ld} {x z : Nat} {s : List Nat} : Way (orE E (orE (oneE e.1 e.2.1 fun t => ∃ r ∈ allP e.2.2.1 e.2.2.2, fitN r t) (orE (esE es) X))) x s z ↔ Way (orE E (orE (esE (e :: es)) X)) x s z := by
  rw [orE_swap]
  exact Way.iff fun _ _ _ => or_congr Iff.rfl (or_congr esE_cons.symm Iff.rfl)
theorem leads_way : ∀ (es : List Ld) (l : List Lst) (X : Edge), OkE l.length es → InE (edgeL l) l.length → InE X l.length → ∀ {x z : Nat} {s : List Nat}, x < l.length → z < l.length →
    (Way (orE (edgeL (leadsL l es)) X) x s z ↔ Way (orE (edgeL l) (orE (esE es) X)) x s z)
  | [], l, X, _, _, _, x, z, s, _, _ => Way.iff fun _ _ _ => ⟨fun h => h.elim .inl fun h => .inr (.inr h), fun h => h.elim .inl fun h => h.elim (fun ⟨_, h, _⟩ => by cases h) .inr⟩
  | e :: es, l, X, hr, hl, hX, x, z, s, hx, hz => by
    obtain ⟨h1, h2⟩ := hr e (List.mem_cons_self ..)
    have hlen := leadRows_len (allP e.2.2.1 e.2.2.2) l e.1 e.2.1
    show Way (orE (edgeL (leadsL (leadRows l e.1 e.2.1 (allP e.2.2.1 e.2.2.2)) es)) X) x s z ↔ _
    rw [leads_way es _ X (hr.tail.more (by omega)) (leadRows_in _ l e.1 e.2.1 h1 h2 hl) (hX.more (by omega)) (by omega) (by omega),
      leadRows_way _ l e.1 e.2.1 (orE (esE es) X) (all_ne _ _) h1 h2 hl ((esE_in hr.tail).or hX) hx hz, esE_way]
theorem leads_mid : ∀ (es : List Ld) (l : List Lst) (X : Edge), OkE l.length es → InE (edgeL l) l.length → InE X l.length → ∀ {x y : Nat} {t : List Nat}, x < l.length → l.length ≤ y →
    (Way (orE (edgeL (leadsL l es)) X) x t y ↔ ∃ (k : Nat) (e : Ld) (t' u : List Nat), es[k]? = some e ∧ t = t' ++ u ∧ Way (orE (edgeL l) (orE (esE es) X)) x t' e.1 ∧ midsP (offM l.length es k) (allP e.2.2.1 e.2.2.2) u y)
  | [], l, X, _, hl, hX, x, y, t, hx, hy => by
    constructor
    · intro h
      exfalso
      have key : ∀ {a b : Nat} {t : List Nat}, Way (orE (edgeL l) X) a t b → a < l.length → b < l.length := by
        intro a b t h
        induction h with
        | nil => exact id
        | cons h1 _ ih => exact fun _ => ih ((hl.or hX) _ _ _ h1).2
      have := key (show Way (orE (edgeL l) X) x t y from h) hx
      omega
    · rintro ⟨k, rs, _, _, h, _⟩
      simp at h
  | e :: es, l, X, hr, hl, hX, x, y, t, hx, hy => by
    obtain ⟨ha, hb⟩ := hr e (List.mem_cons_self ..)
    have hlen := leadRows_len (allP e.2.2.1 e.2.2.2) l e.1 e.2.1
    have hl' := leadRows_in (allP e.2.2.1 e.2.2.2) l e.1 e.2.1 ha hb hl
    have hX' : InE (orE (esE es) X) l.length := (esE_in hr.tail).or hX
    have hw : ∀ {z : Nat} {s : List Nat}, z < l.length → (Way (orE (edgeL (leadRows l e.1 e.2.1 (allP e.2.2.1 e.2.2.2))) (orE (esE es) X)) x s z ↔ Way (orE (edgeL l) (orE (esE (e :: es)) X)) x s z) := fun {z s} hz => by
      rw [leadRows_way _ l e.1 e.2.1 (orE (esE es) X) (all_ne _ _) ha hb hl hX' hx hz, esE_way]
    show Way (orE (edgeL (leadsL (leadRows l e.1 e.2.1 (allP e.2.2.1 e.2.2.2)) es)) X) x t y ↔ _
    by_cases hyl : y < (leadRows l e.1 e.2.1 (allP e.2.2.1 e.2.2.2)).length
    · rw [leads_way es _ X (hr.tail.more (by omega)) hl' (hX.more (by omega)) (by omega) hyl, mids_way ha hb hl hX' hx hy]
      constructor
      · rintro ⟨t', u, rfl, h1, h2⟩
        exact ⟨0, e, t', u, rfl, rfl, (hw ha).1 h1, h2⟩
      · rintro ⟨k, e', t', u, h0, rfl, h1, h2⟩
        cases k with
        | zero =>
          injection h0 with h0
          subst h0
          exact ⟨t', u, rfl, (hw ha).2 h1, h2⟩
        | succ k =>
          exfalso
          have h3 := (midsP_in h2).1
          have h4 : l.length + midsN (allP e.2.2.1 e.2.2.2) ≤ offM l.length (e :: es) (k + 1) := offM_ge (es := es) (k := k)
          omega
    · rw [leads_mid es _ X (hr.tail.more (by omega)) hl' (hX.more (by omega)) (by omega) (by omega)]
      constructor
      · rintro ⟨k, e', t', u, h0, rfl, h1, h2⟩
        have he := (hr.tail e' (List.mem_of_getElem? h0)).1
        refine ⟨k + 1, e', t', u, h0, rfl, (hw he).1 h1, ?_⟩
        rw [hlen] at h2
        exact h2
      · rintro ⟨k, e', t', u, h0, rfl, h1, h2⟩
        cases k with
        | zero =>
          exfalso
          injection h0 with h0
          subst h0
          have h3 := (midsP_in h2).2
          have h4 : offM l.length (e :: es) 0 = l.length := rfl
          omega
        | succ k =>
          have h0 : es[k]? = some e' := h0
          have he := (hr.tail e' (List.mem_of_getElem? h0)).1
          refine ⟨k, e', t', u, h0, rfl, (hw he).2 h1, ?_⟩
          rw [hlen]
          exact h2
theorem all_mids (lo hi : Int) : midsN (allP lo hi) ≤ 60 := by
  have k : ∀ {rs : List (List (Int × Int))}, (∀ r ∈ rs, r.length ≤ 4) → midsN rs ≤ 3 * rs.length := by
    intro rs
    induction rs with
    | nil => exact fun _ => Nat.le_refl _
    | cons r rs ih =>
      intro h
      have h1 := h r (List.mem_cons_self ..)
      have h2 := ih fun r hr => h r (List.mem_cons_of_mem _ hr)
      rw [midsN, List.length_cons]
      omega
  have h2 := k fun r hr => (all_ok lo hi r hr).2.1
  have h3 := Sp.all_len lo hi
  omega
theorem leads_len : ∀ (es : List Ld) (l : List Lst), l.length ≤ (leadsL l es).length ∧ (leadsL l es).length ≤ l.length + 60 * es.length
  | [], _ => ⟨Nat.le_refl _, by simp [leadsL]⟩
  | e :: es, l => by
    obtain ⟨h1, h2⟩ := leads_len es (leadRows l e.1 e.2.1 (allP e.2.2.1 e.2.2.2))
    rw [leadRows_len] at h1 h2
    have hm := all_mids e.2.2.1 e.2.2.2
    rw [List.length_cons]
    show l.length ≤ (leadsL (leadRows l e.1 e.2.1 (allP e.2.2.1 e.2.2.2)) es).length ∧ (leadsL (leadRows l e.1 e.2.1 (allP e.2.2.1 e.2.2.2)) es).length ≤ _
    omega
theorem leads_fin : ∀ (es : List Ld) (l : List Lst) {z : Nat}, (∃ s, (leadsL l es)[z]? = some s ∧ s.fin = true) ↔ ∃ s, l[z]? = some s ∧ s.fin = true
  | [], _, _ => Iff.rfl
  | e :: es, l, _ => (leads_fin es (leadRows l e.1 e.2.1 (allP e.2.2.1 e.2.2.2))).trans fin_iff
theorem leads_good : ∀ (es : List Ld) (l : List Lst), OkE l.length es → LGood l → LGood (leadsL l es)
  | [], _, _, h => h
  | e :: es, l, hr, h => by
    have hlen := leadRows_len (allP e.2.2.1 e.2.2.2) l e.1 e.2.1
    exact leads_good es _ (hr.tail.more (by omega)) (h.rows _ (hr e (List.mem_cons_self ..)).2 fun r hr => (all_ok _ _ r hr).2.2)
theorem leadsL_snoc : ∀ (es : List Ld) (l : List Lst) (e : Ld), leadsL l (es ++ [e]) = leadRows (leadsL l es) e.1 e.2.1 (allP e.2.2.1 e.2.2.2)
  | [], _, _ => rfl
  | _ :: es, _, e => leadsL_snoc es _ e
/-- Lists of arcs and free ways stay short. -/
def FewT (K F : Nat) (l : List Lst) : Prop := ∀ s ∈ l, s.arcs.length ≤ K ∧ s.free.length ≤ F
theorem FewT.more {K K' F : Nat} {l : List Lst} (h : FewT K F l) (hk : K ≤ K') : FewT K' F l := fun s hs => ⟨Nat.le_trans (h s hs).1 hk, (h s hs).2⟩
theorem FewT.add {K F : Nat} {l : List Lst} (h : FewT K F l) (a : Nat) (z : Arc3) : FewT (K + 1) F (addArc l a z) := fun s hs => by
  obtain ⟨j, hj⟩ := List.mem_iff_getElem?.1 hs
  by_cases e : a = j
  · subst e
    have hja : a < l.length := by rw [← addArc_len l a z]; exact (List.getElem?_eq_some_iff.1 hj).1
    rw [addArc_at _ (List.getElem?_eq_getElem hja)] at hj
    injection hj with hj
    subst hj
    have := h l[a] (List.getElem_mem _)
    refine ⟨?_, this.2⟩
    rw [List.length_append, List.length_singleton]
    omega
  · rw [addArc_ne _ e] at hj
    have := h s (List.mem_of_getElem? hj)
    exact ⟨by omega, this.2⟩
theorem FewT.bare {K F : Nat} {l : List Lst} (h : FewT K F l) : FewT K F (l ++ [⟨false, [], []⟩]) := fun s hs => by
  rcases List.mem_append.1 hs with hs | hs
  · exact h s hs
  · rw [List.mem_singleton.1 hs]
    exact ⟨Nat.zero_le _, Nat.zero_le _⟩
theorem FewT.row : ∀ (r : List (Int × Int)) {K F : Nat} {l : List Lst} (a b : Nat), FewT K F l → FewT (K + r.length) F (leadRow l a b r)
  | [], _, _, _, _, _, h => h
  | [p], _, _, _, a, b, h => h.add a _
  | p :: q :: r, K, F, l, a, b, h => by
    have := FewT.row (q :: r) l.length b ((h.bare).add a (p.1, p.2, (l.length : Int)))
    rw [List.length_cons, show K + ((q :: r).length + 1) = K + 1 + (q :: r).length by omega]
    exact this
theorem FewT.rows : ∀ (rs : List (List (Int × Int))) {K F : Nat} {l : List Lst} (a b : Nat), (∀ r ∈ rs, r.length ≤ 4) → FewT K F l → FewT (K + 4 * rs.length) F (leadRows l a b rs)
  | [], _, _, _, _, _, _, h => h
  | r :: rs, K, F, l, a, b, hr, h => by
    show FewT _ _ (leadRows (leadRow l a b r) a b rs)
    have h1 := hr r (List.mem_cons_self ..)
    have h2 := FewT.rows rs a b (fun q hq => hr q (List.mem_cons_of_mem _ hq)) (h.row r a b)
    exact h2.more (by rw [List.length_cons]; omega)
theorem FewT.leads : ∀ (es : List Ld) {K F : Nat} {l : List Lst}, FewT K F l → FewT (K + 80 * es.length) F (leadsL l es)
  | [], _, _, _, h => h
  | e :: es, K, F, l, h => by
    show FewT _ _ (leadsL (leadRows l e.1 e.2.1 (allP e.2.2.1 e.2.2.2)) es)
    have h1 := Sp.all_len e.2.2.1 e.2.2.2
    have h2 := FewT.leads es (h.rows (allP e.2.2.1 e.2.2.2) e.1 e.2.1 fun r hr => (all_ok _ _ r hr).2.1)
    exact h2.more (by rw [List.length_cons]; omega)
end Go.Proofs.YtclahhkcbkpofaaDoor
