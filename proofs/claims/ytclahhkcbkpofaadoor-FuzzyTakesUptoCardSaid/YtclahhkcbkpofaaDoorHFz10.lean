/- From which states something final is reached (plain Lean). -/
import Derived.Test.YtclahhkcbkpofaaDoorHFz9
namespace Go.Proofs.YtclahhkcbkpofaaDoor
open Go.RowKit
/-- A state has an arc to another. -/
def Lead (d : List St) (y t : Nat) : Prop := ∃ s, d[y]? = some s ∧ ∃ a ∈ s.2, a.2.2 = (t : Int)
theorem lookA_mem {l : List Arc3} (h : l.Pairwise fun a b => a.2.1 < b.1) (ho : ∀ a ∈ l, a.1 ≤ a.2.1) {a : Arc3} (ha : a ∈ l) : lookA l a.1 = some a.2.2 := by
  induction l with
  | nil => cases ha
  | cons b r ih =>
    obtain ⟨h1, h2⟩ := List.pairwise_cons.1 h
    rw [lookA_cons]
    rcases List.mem_cons.1 ha with rfl | ha
    · rw [if_pos ⟨Int.le_refl _, ho a (List.mem_cons_self ..)⟩]
    · rw [if_neg (by have := h1 a ha; have := ho b (List.mem_cons_self ..); omega)]
      exact ih h2 (fun x hx => ho x (List.mem_cons_of_mem _ hx)) ha
theorem lookA_some {l : List Arc3} {c k : Int} (h : lookA l c = some k) : ∃ a ∈ l, a.2.2 = k ∧ a.1 ≤ c ∧ c ≤ a.2.1 := by
  unfold lookA at h
  obtain ⟨a, ha, rfl⟩ := Option.map_eq_some_iff.1 h
  have hp := List.find?_some ha
  have hp := of_decide_eq_true hp
  exact ⟨a, List.mem_of_find?_eq_some ha, rfl, hp.1, hp.2⟩
section
variable {d : List St} {y t : Nat}
theorem lead_step (h : Good d) (hl : Lead d y t) : ∃ c, c < 256 ∧ (auOf d).step y c = some t := by
  obtain ⟨s, hs, a, ha, hat⟩ := hl
  have hA := h.asc s (List.mem_of_getElem? hs)
  have hok := hA.ok a ha
  refine ⟨a.1.toNat, by omega, ?_⟩
  show (d[y]?).bind (fun s => (lookA s.2 _).map Int.toNat) = _
  rw [hs]
  show (lookA s.2 _).map Int.toNat = _
  rw [show ((a.1.toNat : Nat) : Int) = a.1 by omega, lookA_mem hA.lt (fun x hx => (hA.ok x hx).2.1) ha, hat]
  rfl
theorem step_lead (h : Good d) {c : Nat} (hs : (auOf d).step y c = some t) : Lead d y t := by
  have hs : (d[y]?).bind (fun s => (lookA s.2 c).map Int.toNat) = some t := hs
  obtain ⟨s, h1, h2⟩ := Option.bind_eq_some_iff.1 hs
  obtain ⟨k, h3, rfl⟩ := Option.map_eq_some_iff.1 h2
  obtain ⟨a, ha, hk, _⟩ := lookA_some h3
  have := h.to_ s (List.mem_of_getElem? h1) a ha
  exact ⟨s, h1, a, ha, by omega⟩
theorem live_fin {s : St} (hs : d[y]? = some s) (hf : s.1 = true) : (auOf d).live y := by
  refine ⟨[], ?_⟩
  show ((d[y]?).map (·.1)).getD false = true
  rw [hs]
  exact hf
theorem live_lead (h : Good d) (hl : Lead d y t) (ht : (auOf d).live t) : (auOf d).live y := by
  obtain ⟨c, hc, hst⟩ := lead_step h hl
  obtain ⟨r, hr⟩ := ht
  refine ⟨c :: r, ?_⟩
  rw [Au.acc, if_pos hc, hst]
  exact hr
/-- What is closed holds of all that live. -/
theorem live_closed (h : Good d) (P : Nat → Prop) (hf : ∀ i s, d[i]? = some s → s.1 = true → P i) (hc : ∀ y t, Lead d y t → P t → P y) : ∀ (r : List Nat) (x : Nat), (auOf d).acc x r = true → P x
  | [], x, hr => by
    have hr : ((d[x]?).map (·.1)).getD false = true := hr
    cases hx : d[x]? with
    | none => rw [hx] at hr; cases hr
    | some s => rw [hx] at hr; exact hf x s hx hr
  | c :: r, x, hr => by
    rw [Au.acc] at hr
    split at hr
    · cases hs : (auOf d).step x c with
      | none => rw [hs] at hr; cases hr
      | some z =>
        rw [hs] at hr
        exact hc x z (step_lead h hs) (live_closed h P hf hc r z hr)
    · cases hr
end
/-- So many of a row are false. -/
def offs (L : List Bool) : Nat := (L.filter (!·)).length
theorem offs_set {L : List Bool} {i : Nat} (h : L[i]? = some false) : offs (L.set i true) + 1 = offs L := by
  unfold offs
  induction L generalizing i with
  | nil => cases h
  | cons x r ih =>
    cases i with
    | zero =>
      simp at h
      subst h
      simp
    | succ i =>
      have := ih (i := i) (by simpa using h)
      simp only [List.set_cons_succ, List.filter_cons]
      cases x
      · simp only [Bool.not_false, if_true, List.length_cons]; omega
      · simpa using this
theorem offs_le (L : List Bool) : offs L ≤ L.length := List.length_filter_le _ _
/-- Which states lead to a state, as far as they were gone through: those ahead of i, and the first j arcs of i. -/
structure BackP (d : List St) (i j : Nat) (F : List (List Int)) : Prop where
  len : F.length = d.length
  snd : ∀ (t : Nat) f, F[t]? = some f → ∀ y ∈ f, ∃ k : Nat, y = (k : Int) ∧ k < d.length ∧ Lead d k t
  cpl : ∀ (t : Nat) f, F[t]? = some f → ∀ (y : Nat) s, d[y]? = some s → (∃ (q : Nat) (a : Arc3), s.2[q]? = some a ∧ a.2.2 = (t : Int) ∧ (y < i ∨ y = i ∧ q < j)) → ((y : Nat) : Int) ∈ f
  bnd : ∀ f ∈ F, f.length ≤ i * 256 + j
theorem BackP.start (d : List St) : BackP d 0 0 (List.replicate d.length []) := by
  refine ⟨by simp, fun t f hf y hy => ?_, fun t f _ y s _ ⟨q, a, _, _, h⟩ => by omega, fun f hf => ?_⟩
  · rw [List.getElem?_replicate] at hf
    split at hf
    · injection hf with hf; subst hf; cases hy
    · cases hf
  · rw [(List.mem_replicate.1 hf).2]; exact Nat.zero_le _
theorem BackP.arc {d : List St} {i j : Nat} {F : List (List Int)} (h : BackP d i j F) {s : St} (hs : d[i]? = some s) {a : Arc3} (ha : s.2[j]? = some a) {t : Nat} (hat : a.2.2 = (t : Int)) {f : List Int} (hf : F[t]? = some f) : BackP d i (j + 1) (F.set t (f ++ [(i : Int)])) := by
  have htl := (List.getElem?_eq_some_iff.1 hf).1
  have hil := (List.getElem?_eq_some_iff.1 hs).1
  refine ⟨by rw [List.length_set]; exact h.len, fun u g hg y hy => ?_, fun u g hg y s' hs' hq => ?_, fun g hg => ?_⟩
  · rw [List.getElem?_set] at hg
    split at hg
    · rename_i e
      subst e
      injection hg with hg
      subst hg
      rcases List.mem_append.1 hy with hy | hy
      · exact h.snd t f hf y hy
      · rw [List.mem_singleton.1 hy]
        exact ⟨i, rfl, hil, s, hs, a, List.mem_of_getElem? ha, hat⟩
    · exact h.snd u g hg y hy
  · obtain ⟨q, a', ha', hau, hqq⟩ := hq
    rw [List.getElem?_set] at hg
    split at hg
    · rename_i e
      subst e
      injection hg with hg
      subst hg
      by_cases hold : y < i ∨ y = i ∧ q < j
      · exact List.mem_append_left _ (h.cpl t f hf y s' hs' ⟨q, a', ha', hau, hold⟩)
      · have : y = i := by omega
        rw [this]
        exact List.mem_append_right _ (List.mem_singleton.2 rfl)
    · rename_i e
      have hold : y < i ∨ y = i ∧ q < j := by
        apply Classical.byContradiction
        intro hn
        have hy : y = i := by omega
        have hq : q = j := by omega
        subst hy hq
        rw [hs] at hs'
        injection hs' with hs'
        subst hs'
        rw [ha] at ha'
        injection ha' with ha'
        subst ha'
        exact e (by omega)
      exact h.cpl u g hg y s' hs' ⟨q, a', ha', hau, hold⟩
  · rcases List.mem_or_eq_of_mem_set hg with hg | rfl
    · have := h.bnd g hg; omega
    · have := h.bnd f (List.mem_of_getElem? hf)
      rw [List.length_append, List.length_singleton]
      omega
theorem BackP.next {d : List St} {i : Nat} {F : List (List Int)} {s : St} (hs : d[i]? = some s) (hm : s.2.length ≤ 256) (h : BackP d i s.2.length F) : BackP d (i + 1) 0 F := by
  refine ⟨h.len, h.snd, fun t f hf y s' hs' ⟨q, a, ha, hat, hq⟩ => ?_, fun f hf => Nat.le_trans (h.bnd f hf) ?_⟩
  rotate_left
  · rw [Nat.add_mul]
    exact Nat.add_le_add_left hm _
  refine h.cpl t f hf y s' hs' ⟨q, a, ha, hat, ?_⟩
  by_cases hy : y = i
  · subst hy
    rw [hs] at hs'
    injection hs' with hs'
    subst hs'
    exact .inr ⟨rfl, (List.getElem?_eq_some_iff.1 ha).1⟩
  · exact .inl (by omega)
/-- All of them. -/
theorem BackP.all {d : List St} {F : List (List Int)} (h : BackP d d.length 0 F) {t : Nat} {f : List Int} (hf : F[t]? = some f) {y : Nat} : ((y : Nat) : Int) ∈ f ↔ Lead d y t := by
  constructor
  · intro hy
    obtain ⟨k, hk, _, hl⟩ := h.snd t f hf _ hy
    have : y = k := by omega
    rw [this]
    exact hl
  · rintro ⟨s, hs, a, ha, hat⟩
    obtain ⟨q, hq⟩ := List.mem_iff_getElem?.1 ha
    exact h.cpl t f hf y s hs ⟨q, a, hq, hat, .inl (List.getElem?_eq_some_iff.1 hs).1⟩
/-- What is known to live, and what is to be gone on from: behind the first i states. -/
structure TodoP (d : List St) (i : Nat) (L : List Bool) (T : List Int) (ex : Nat → Int → Prop) : Prop where
  len : L.length = d.length
  snd : ∀ x : Nat, L[x]? = some true → (auOf d).live x
  tin : ∀ y ∈ T, ∃ k : Nat, y = (k : Int) ∧ k < d.length ∧ L[k]? = some true
  fin : ∀ (x : Nat) s, x < i → d[x]? = some s → s.1 = true → L[x]? = some true
  cls : ∀ x y : Nat, L[x]? = some true → Lead d y x → L[y]? = some true ∨ ((x : Nat) : Int) ∈ T ∨ ex x y
  few : T.length + offs L ≤ d.length
theorem TodoP.start (d : List St) : TodoP d 0 (List.replicate d.length false) [] (fun _ _ => False) := by
  have hf : ∀ x, (List.replicate d.length false)[x]? ≠ some true := fun x => by
    rw [List.getElem?_replicate]; split <;> simp
  refine ⟨by simp, fun x hx => absurd hx (hf x), fun y hy => (by cases hy), fun x s hx => absurd hx (Nat.not_lt_zero _), fun x y hx => absurd hx (hf x), ?_⟩
  have := offs_le (List.replicate d.length false)
  simpa using this
theorem TodoP.off {d : List St} {i : Nat} {L : List Bool} {T : List Int} {ex : Nat → Int → Prop} (h : TodoP d i L T ex) {s : St} (hs : d[i]? = some s) (hf : s.1 = false) : TodoP d (i + 1) L T ex := by
  refine ⟨h.len, h.snd, h.tin, fun x s' hx hs' hf' => ?_, h.cls, h.few⟩
  by_cases hxi : x = i
  · subst hxi
    rw [hs] at hs'
    injection hs' with hs'
    subst hs'
    rw [hf] at hf'
    cases hf'
  · exact h.fin x s' (by omega) hs' hf'
theorem TodoP.put {d : List St} {i i' : Nat} {L : List Bool} {T : List Int} {ex : Nat → Int → Prop} (h : TodoP d i L T ex) {k : Nat} (hk : L[k]? = some false) (hl : (auOf d).live k) (hfin : ∀ x s, x < i' → x ≠ k → d[x]? = some s → s.1 = true → L[x]? = some true) : TodoP d i' (L.set k true) (T ++ [(k : Int)]) ex := by
  have hkl := (List.getElem?_eq_some_iff.1 hk).1
  have hset : ∀ x, (L.set k true)[x]? = if x = k then some true else L[x]? := fun x => by
    rw [List.getElem?_set]
    by_cases e : k = x
    · rw [if_pos e, if_pos hkl, if_pos e.symm]
    · rw [if_neg e, if_neg fun e' => e e'.symm]
  refine ⟨by rw [List.length_set]; exact h.len, fun x hx => ?_, fun y hy => ?_, fun x s hx hs hf => ?_, fun x y hx hl' => ?_, ?_⟩
  · rw [hset] at hx
    split at hx
    · rename_i e; rw [e]; exact hl
    · exact h.snd x hx
  · rcases List.mem_append.1 hy with hy | hy
    · obtain ⟨q, h1, h2, h3⟩ := h.tin y hy
      exact ⟨q, h1, h2, by rw [hset]; split; rfl; exact h3⟩
    · exact ⟨k, List.mem_singleton.1 hy, by rw [← h.len]; exact hkl, by rw [hset, if_pos rfl]⟩
  · rw [hset]
    split
    · rfl
    · rename_i e; exact hfin x s hx e hs hf
  · rw [hset] at hx
    by_cases e : x = k
    · exact .inr (.inl (List.mem_append_right _ (by rw [e]; exact List.mem_singleton.2 rfl)))
    · rw [if_neg e] at hx
      rcases h.cls x y hx hl' with h1 | h1 | h1
      · refine .inl ?_
        rw [hset]
        split
        · rfl
        · exact h1
      · exact .inr (.inl (List.mem_append_left _ h1))
      · exact .inr (.inr h1)
  · have := offs_set hk
    have := h.few
    rw [List.length_append, List.length_singleton]
    omega
/-- The last one is taken: those that lead to it are to come. -/
theorem TodoP.pop {d : List St} {L : List Bool} {T : List Int} {x : Nat} (h : TodoP d d.length L (T ++ [(x : Int)]) (fun _ _ => False)) (f : List Int) (hf : ∀ y : Nat, ((y : Nat) : Int) ∈ f ↔ Lead d y x) : TodoP d d.length L T (fun z y => z = x ∧ y ∈ f) := by
  refine ⟨h.len, h.snd, fun y hy => h.tin y (List.mem_append_left _ hy), h.fin, fun z y hz hl => ?_, ?_⟩
  · rcases h.cls z y hz hl with h1 | h1 | h1
    · exact .inl h1
    · rcases List.mem_append.1 h1 with h1 | h1
      · exact .inr (.inl h1)
      · have e : z = x := by have := List.mem_singleton.1 h1; omega
        subst e
        exact .inr (.inr ⟨rfl, (hf y).2 hl⟩)
    · exact h1.elim
  · have := h.few
    rw [List.length_append, List.length_singleton] at this
    omega
/-- One that is in L already needs no more. -/
theorem TodoP.drop {d : List St} {i : Nat} {L : List Bool} {T : List Int} {x k : Nat} {r : List Int} (h : TodoP d i L T (fun z y => z = x ∧ y ∈ (k : Int) :: r)) (hk : L[k]? = some true) : TodoP d i L T (fun z y => z = x ∧ y ∈ r) := by
  refine ⟨h.len, h.snd, h.tin, h.fin, fun z y hz hl => ?_, h.few⟩
  rcases h.cls z y hz hl with h1 | h1 | ⟨h1, h2⟩
  · exact .inl h1
  · exact .inr (.inl h1)
  · rcases List.mem_cons.1 h2 with h2 | h2
    · have : y = k := by omega
      rw [this]
      exact .inl hk
    · exact .inr (.inr ⟨h1, h2⟩)
theorem TodoP.done {d : List St} {i : Nat} {L : List Bool} {T : List Int} {x : Nat} (h : TodoP d i L T (fun z y => z = x ∧ y ∈ ([] : List Int))) : TodoP d i L T (fun _ _ => False) :=
  ⟨h.len, h.snd, h.tin, h.fin, fun z y hz hl => by
    rcases h.cls z y hz hl with h1 | h1 | h1
    · exact .inl h1
    · exact .inr (.inl h1)
    · exact absurd h1.2 (List.not_mem_nil), h.few⟩
theorem todo_end {d : List St} (hg : Good d) {L : List Bool} (h : TodoP d d.length L [] (fun _ _ => False)) {x : Nat} {b : Bool} (hx : L[x]? = some b) : b = true ↔ (auOf d).live x := by
  constructor
  · intro e
    rw [e] at hx
    exact h.snd x hx
  · rintro ⟨r, hr⟩
    have := live_closed hg (fun x => L[x]? = some true) (fun i s hs hf => h.fin i s (List.getElem?_eq_some_iff.1 hs).1 hs hf) (fun y t hl ht => by
      rcases h.cls t y ht hl with h1 | h1 | h1
      · exact h1
      · cases h1
      · exact h1.elim) r x hr
    rw [hx] at this
    injection this
end Go.Proofs.YtclahhkcbkpofaaDoor
