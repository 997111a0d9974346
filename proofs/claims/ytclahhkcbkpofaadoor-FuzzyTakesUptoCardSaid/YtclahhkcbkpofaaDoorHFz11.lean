/- The states that are met, in their order, by arcs in the place of bytes (plain Lean). -/
import Derived.Test.YtclahhkcbkpofaaDoorHFz10
namespace Go.Proofs.YtclahhkcbkpofaaDoor
open Go.RowKit
/-- What the classes say. -/
structure Cls (d : List St) (cls : Nat → Nat) (rep : Nat → Nat) : Prop where
  good : Good d
  iff : ∀ x, x < d.length → ∀ y, y < d.length → (cls x = cls y ↔ Leq (auOf d) x (auOf d) y)
  rep_ : ∀ x, x < d.length → (auOf d).live x → rep (cls x) < d.length ∧ cls (rep (cls x)) = cls x
/-- One class more. -/
def addC (cls rep : Nat → Nat) (met : List Nat) (k : Nat) : List Nat := if (findI (fun z => decide (cls z = k)) met).isSome then met else met ++ [rep k]
/-- The number of a class. -/
def numK (cls : Nat → Nat) (met : List Nat) (k : Nat) : Nat := (findI (fun z => decide (cls z = k)) met).getD 0
/-- Where arcs lead, by classes. -/
noncomputable def gOf (d : List St) (cls : Nat → Nat) (x : Nat) (c : Nat) : Option Nat := ((auOf d).stepL x c).map cls
def metA (cls rep : Nat → Nat) (met : List Nat) (A : List Arc3) : List Nat := A.foldl (fun m a => addC cls rep m a.2.2.toNat) met
theorem metA_snoc (cls rep : Nat → Nat) (met : List Nat) (A : List Arc3) (a : Arc3) : metA cls rep met (A ++ [a]) = addC cls rep (metA cls rep met A) a.2.2.toNat := by
  unfold metA
  rw [List.foldl_append]
  rfl
section
variable {d : List St} {cls rep : Nat → Nat}
theorem addC_pre (met : List Nat) (k : Nat) : ∃ more, addC cls rep met k = met ++ more := by
  unfold addC
  split
  · exact ⟨[], by simp⟩
  · exact ⟨_, rfl⟩
theorem metA_pre (met : List Nat) (A : List Arc3) : ∃ more, metA cls rep met A = met ++ more := by
  induction A using rev_ind with
  | h0 => exact ⟨[], by simp [metA]⟩
  | h1 l a ih =>
    obtain ⟨m1, h1⟩ := ih
    rw [metA_snoc]
    obtain ⟨m2, h2⟩ := addC_pre (cls := cls) (rep := rep) (metA cls rep met l) a.2.2.toNat
    exact ⟨m1 ++ m2, by rw [h2, h1, List.append_assoc]⟩
/-- A class that is known stays. -/
theorem find_more {met more : List Nat} {k i : Nat} (h : findI (fun z => decide (cls z = k)) met = some i) : findI (fun z => decide (cls z = k)) (met ++ more) = some i := by
  rw [findI_append, h]
theorem addC_has {met : List Nat} {k : Nat} (hr : cls (rep k) = k) : ∃ i, findI (fun z => decide (cls z = k)) (addC cls rep met k) = some i := by
  unfold addC
  split
  · rename_i h
    exact Option.isSome_iff_exists.1 h
  · rename_i h
    rw [findI_append]
    cases hf : findI (fun z => decide (cls z = k)) met with
    | some i => rw [hf] at h; exact absurd rfl h
    | none => exact ⟨met.length, by simp [findI, hr]⟩
theorem addC_again {met : List Nat} {k i : Nat} (h : findI (fun z => decide (cls z = k)) met = some i) : addC cls rep met k = met := by
  unfold addC
  rw [h]
  rfl
theorem gOf_rep (h : Cls d cls rep) {x c k : Nat} (hx : x < d.length) (hg : gOf d cls x c = some k) : ∃ y, (auOf d).stepL x c = some y ∧ y < d.length ∧ (auOf d).live y ∧ cls y = k ∧ rep k < d.length ∧ cls (rep k) = k := by
  obtain ⟨y, h1, h2⟩ := Option.map_eq_some_iff.1 hg
  obtain ⟨h3, h4, _⟩ := stepL_in h.good.within hx h1
  have := h.rep_ y h3 h4
  rw [h2] at this
  exact ⟨y, h1, h3, h4, h2, this⟩
open Classical in
/-- The one that stands for a state's class. -/
noncomputable def repL (d : List St) (cls rep : Nat → Nat) (y : Nat) : Nat := if y < d.length ∧ (auOf d).live y then rep (cls y) else y
theorem repL_leq (h : Cls d cls rep) (y : Nat) : Leq (auOf d) (repL d cls rep y) (auOf d) y := by
  unfold repL
  split
  · rename_i hy
    have := h.rep_ y hy.1 hy.2
    exact (h.iff _ this.1 y hy.1).1 this.2
  · exact Leq.refl _ _
theorem leastW_eqv {σ : Type} {M : Au σ} {r : σ → σ} {z y : σ} {p : Prop} [hp : Decidable p] (h : Leq M z M y ↔ p) : (leastW M r).eqv z y = decide p := by
  have e : (leastW M r).eqv z y = @decide (Leq M z M y) (Classical.propDecidable _) := rfl
  rw [e]
  exact decide_eq_decide.2 h
/-- By arcs as by bytes. -/
theorem metA_runs (h : Cls d cls rep) {x : Nat} (hx : x < d.length) {met : List Nat} (hm : ∀ z ∈ met, z < d.length) : ∀ n, n ≤ 256 → metA cls rep met (runs (gOf d cls x) n) = (leastW (auOf d) (repL d cls rep)).row x met n ∧ ∀ z ∈ metA cls rep met (runs (gOf d cls x) n), z < d.length
  | 0, _ => ⟨rfl, hm⟩
  | n + 1, hn => by
    obtain ⟨ih, ih2⟩ := metA_runs h hx hm n (by omega)
    have hstep : (leastW (auOf d) (repL d cls rep)).step x n = (auOf d).stepL x n := rfl
    rw [runs, Bfs.row, hstep]
    cases hg : gOf d cls x n with
    | none =>
      have hs : (auOf d).stepL x n = none := Option.map_eq_none_iff.1 hg
      rw [hs]
      exact ⟨ih, ih2⟩
    | some k =>
      obtain ⟨y, h1, h2, h3, h4, h5, h6⟩ := gOf_rep h hx hg
      rw [h1]
      simp only
      have hgrow : metA cls rep met (growA (runs (gOf d cls x) n) n k) = addC cls rep (metA cls rep met (runs (gOf d cls x) n)) k := by
        unfold growA
        split
        · rename_i a ha
          by_cases hj : a.2.1 + 1 = (n : Int) ∧ a.2.2 = (k : Int)
          · rw [if_pos hj, metA_snoc]
            obtain ⟨l, hl⟩ := List.getLast?_eq_some_iff.1 ha
            rw [hl, List.dropLast_concat, metA_snoc, hj.2, Int.toNat_natCast]
            obtain ⟨i, hi⟩ := addC_has (met := metA cls rep met l) h6
            rw [addC_again hi]
          · rw [if_neg hj, metA_snoc, Int.toNat_natCast]
        · rename_i hn
          rw [List.getLast?_eq_none_iff.1 hn]
          show addC cls rep met _ = _
          rw [Int.toNat_natCast]
          rfl
      have hfind : findI (fun z => (leastW (auOf d) (repL d cls rep)).eqv z y) ((leastW (auOf d) (repL d cls rep)).row x met n) = findI (fun z => decide (cls z = k)) (metA cls rep met (runs (gOf d cls x) n)) := by
        rw [← ih]
        have : ∀ l : List Nat, (∀ z ∈ l, z < d.length) → findI (fun z => (leastW (auOf d) (repL d cls rep)).eqv z y) l = findI (fun z => decide (cls z = k)) l := by
          intro l
          induction l with
          | nil => intro _; rfl
          | cons z r ihl =>
            intro hl
            rw [findI, findI, ihl fun u hu => hl u (List.mem_cons_of_mem _ hu)]
            have e : (leastW (auOf d) (repL d cls rep)).eqv z y = decide (cls z = k) := by
              rw [← h4]
              exact leastW_eqv ((h.iff z (hl z (List.mem_cons_self ..)) y h2).symm)
            rw [e]
        exact this _ ih2
      rw [hgrow, hfind]
      unfold addC
      cases hf : findI (fun z => decide (cls z = k)) (metA cls rep met (runs (gOf d cls x) n)) with
      | some i =>
        simp only [Option.isSome_some, if_true]
        exact ⟨ih, ih2⟩
      | none =>
        simp only [Option.isSome_none, Bool.false_eq_true, if_false]
        refine ⟨?_, fun z hz => ?_⟩
        · have : (leastW (auOf d) (repL d cls rep)).rep y = rep k := by
            show repL d cls rep y = _
            unfold repL
            rw [if_pos ⟨h2, h3⟩, h4]
          rw [this, ih]
        · rcases List.mem_append.1 hz with hz | hz
          · exact ih2 z hz
          · rw [List.mem_singleton.1 hz]; exact h5
/-- Classes of what is met are told apart. -/
def Apart (cls : Nat → Nat) (met : List Nat) : Prop := met.Pairwise fun x y => cls x ≠ cls y
theorem addC_apart {met : List Nat} {k : Nat} (h : Apart cls met) (hr : cls (rep k) = k) : Apart cls (addC cls rep met k) := by
  unfold addC
  split
  · exact h
  · rename_i hn
    refine List.pairwise_append.2 ⟨h, List.pairwise_singleton _ _, fun x hx y hy => ?_⟩
    rw [List.mem_singleton.1 hy, hr]
    have hf : findI (fun z => decide (cls z = k)) met = none := by
      cases hf : findI (fun z => decide (cls z = k)) met with
      | none => rfl
      | some i => rw [hf] at hn; exact absurd rfl hn
    have := findI_none.1 hf x hx
    exact of_decide_eq_false this
theorem apart_few {met : List Nat} {cnt : Nat} (h : Apart cls met) (hc : ∀ z ∈ met, cls z < cnt) : met.length ≤ cnt := by
  have hn : (met.map cls).Nodup := by
    unfold List.Nodup
    rw [List.pairwise_map]
    exact h
  have : ∀ (m : Nat) (l : List Nat), l.Nodup → (∀ z ∈ l, z < m) → l.length ≤ m := by
    intro m
    induction m with
    | zero => intro l _ hl; cases l with
      | nil => exact Nat.le_refl _
      | cons a r => exact absurd (hl a (List.mem_cons_self ..)) (Nat.not_lt_zero _)
    | succ m ih =>
      intro l hnd hl
      have h1 := ih (l.erase m) (hnd.erase _) fun z hz => by
        have := (List.Nodup.mem_erase_iff hnd).1 hz
        have := hl z this.2
        omega
      rw [List.length_erase] at h1
      split at h1 <;> omega
  have := this cnt (met.map cls) hn fun z hz => by
    obtain ⟨y, hy, rfl⟩ := List.mem_map.1 hz
    exact hc y hy
  rwa [List.length_map] at this
/-- The numbers of what arcs lead to are those in the list that is met in the end. -/
theorem numK_more {met more : List Nat} {k i : Nat} (h : findI (fun z => decide (cls z = k)) met = some i) : numK cls (met ++ more) k = numK cls met k := by
  unfold numK
  rw [find_more h, h]
theorem metA_has (h : Cls d cls rep) {x : Nat} (hx : x < d.length) {met : List Nat} : ∀ (A : List Arc3), (∀ a ∈ A, ∃ c k, gOf d cls x c = some k ∧ a.2.2 = (k : Int)) → ∀ a ∈ A, ∃ i, findI (fun z => decide (cls z = a.2.2.toNat)) (metA cls rep met A) = some i := by
  intro A
  induction A using rev_ind with
  | h0 => intro _ a ha; cases ha
  | h1 l b ih =>
    intro hA a ha
    rw [metA_snoc]
    rcases List.mem_append.1 ha with ha | ha
    · obtain ⟨i, hi⟩ := ih (fun u hu => hA u (List.mem_append_left _ hu)) a ha
      obtain ⟨m, hm⟩ := addC_pre (cls := cls) (rep := rep) (metA cls rep met l) b.2.2.toNat
      rw [hm]
      exact ⟨i, find_more hi⟩
    · rw [List.mem_singleton.1 ha]
      obtain ⟨c, k, hg, hk⟩ := hA b (by simp)
      obtain ⟨y, _, _, _, _, _, h6⟩ := gOf_rep h hx hg
      rw [hk, Int.toNat_natCast]
      exact addC_has h6
/-- Arcs, numbered. -/
def numA (cls : Nat → Nat) (met : List Nat) (A : List Arc3) : List Arc3 := A.map fun a => (a.1, a.2.1, (numK cls met a.2.2.toNat : Int))
theorem numA_more {met more : List Nat} {A : List Arc3} (h : ∀ a ∈ A, ∃ i, findI (fun z => decide (cls z = a.2.2.toNat)) met = some i) : numA cls (met ++ more) A = numA cls met A := by
  unfold numA
  refine List.map_congr_left fun a ha => ?_
  obtain ⟨i, hi⟩ := h a ha
  rw [numK_more hi]
theorem numA_runs (h : Cls d cls rep) {x : Nat} (hx : x < d.length) {met : List Nat} (hm : ∀ z ∈ met, z < d.length) (hall : ∀ c k, c < 256 → gOf d cls x c = some k → ∃ i, findI (fun z => decide (cls z = k)) met = some i) :
    numA cls met (runs (gOf d cls x) 256) = runs ((leastW (auOf d) (repL d cls rep)).num met x) 256 := by
  have hnum : ∀ c, c < 256 → (gOf d cls x c).map (numK cls met) = (leastW (auOf d) (repL d cls rep)).num met x c := by
    intro c hc
    have e : (leastW (auOf d) (repL d cls rep)).num met x c = ((auOf d).stepL x c).bind fun y => findI (fun z => (leastW (auOf d) (repL d cls rep)).eqv z y) met := rfl
    rw [e]
    cases hg : gOf d cls x c with
    | none =>
      have hs : (auOf d).stepL x c = none := Option.map_eq_none_iff.1 hg
      rw [hs]
      rfl
    | some k =>
      obtain ⟨y, h1, h2, h3, h4, h5, h6⟩ := gOf_rep h hx hg
      rw [h1]
      show some (numK cls met k) = findI (fun z => (leastW (auOf d) (repL d cls rep)).eqv z y) met
      have : ∀ l : List Nat, (∀ z ∈ l, z < d.length) → findI (fun z => (leastW (auOf d) (repL d cls rep)).eqv z y) l = findI (fun z => decide (cls z = k)) l := by
        intro l
        induction l with
        | nil => intro _; rfl
        | cons z r ihl =>
          intro hl
          rw [findI, findI, ihl fun u hu => hl u (List.mem_cons_of_mem _ hu)]
          have e : (leastW (auOf d) (repL d cls rep)).eqv z y = decide (cls z = k) := by
            rw [← h4]
            exact leastW_eqv ((h.iff z (hl z (List.mem_cons_self ..)) y h2).symm)
          rw [e]
      rw [this met hm]
      obtain ⟨i, hi⟩ := hall c k hc hg
      unfold numK
      rw [hi]
      rfl
  rw [← runs_congr 256 hnum]
  have hmap := runs_map (gOf d cls x) (numK cls met) 256 fun c hc c' hc' k k' hk hk' e => by
    obtain ⟨i, hi⟩ := hall c k hc hk
    obtain ⟨j, hj⟩ := hall c' k' hc' hk'
    unfold numK at e
    rw [hi, hj] at e
    have e : i = j := e
    subst e
    obtain ⟨z, h1, h2⟩ := findI_some hi
    obtain ⟨z', h1', h2'⟩ := findI_some hj
    rw [h1] at h1'
    injection h1' with h1'
    subst h1'
    have h2 := of_decide_eq_true h2
    have h2' := of_decide_eq_true h2'
    rw [← h2, h2']
  rw [hmap]
  rfl
end
/-- The least automaton of a state's language. -/
def LeastIs {σ : Type} (M : Au σ) (x : σ) (out : List St) : Prop :=
  (M.live x ∧ ∃ r : σ → σ, (∀ y, Leq M (r y) M y) ∧ ∃ f, ((leastW M r).run f 0 [x])[f]? = none ∧ out = leastOf M r f x) ∨ (¬ M.live x ∧ out = [(false, [])])
theorem leastOf_end {σ : Type} (M : Au σ) (r : σ → σ) {f : Nat} {x : σ} (h : ((leastW M r).run f 0 [x])[f]? = none) (k : Nat) : leastOf M r (f + k) x = leastOf M r f x := by
  unfold leastOf
  rw [Bfs.run_end _ (by rw [Nat.zero_add]; exact h)]
theorem LeastIs.eq {σ τ : Type} {M : Au σ} {N : Au τ} {x : σ} {y : τ} {a b : List St} (ha : LeastIs M x a) (hb : LeastIs N y b) (h : Leq M x N y) : a = b := by
  rcases ha with ⟨hl, r, hr, f, hf, rfl⟩ | ⟨hl, rfl⟩
  · rcases hb with ⟨hl', q, hq, g, hg, rfl⟩ | ⟨hl', _⟩
    · rw [← leastOf_end M r hf g, ← leastOf_end N q hg f, Nat.add_comm g f]
      exact leastOf_eq hr hq _ h
    · exact absurd (h.live.1 hl) hl'
  · rcases hb with ⟨hl', _⟩ | ⟨_, rfl⟩
    · exact absurd (h.live.2 hl') hl
    · rfl
/-- What stands behind i rounds. -/
structure NumP (d : List St) (cls rep : Nat → Nat) (i : Nat) (met : List Nat) (out : List St) : Prop where
  run : met = (leastW (auOf d) (repL d cls rep)).run i 0 [0]
  lt : ∀ z ∈ met, z < d.length
  ap : Apart cls met
  has : ∀ (j x : Nat), j < i → met[j]? = some x → ∀ c k, c < 256 → gOf d cls x c = some k → ∃ q, findI (fun z => decide (cls z = k)) met = some q
  out_ : out = (met.take i).map fun x => ((auOf d).fin x, numA cls met (runs (gOf d cls x) 256))
  le : i ≤ met.length
theorem NumP.start {d : List St} {cls rep : Nat → Nat} (h : Cls d cls rep) : NumP d cls rep 0 [0] [] := by
  refine ⟨rfl, fun z hz => ?_, List.pairwise_singleton _ _, fun j x hj => absurd hj (Nat.not_lt_zero _), rfl, Nat.zero_le _⟩
  rw [List.mem_singleton.1 hz]
  exact List.length_pos_iff.2 h.good.ne
theorem runs_gOf {d : List St} {cls : Nat → Nat} {x : Nat} : ∀ a ∈ runs (gOf d cls x) 256, ∃ c k, gOf d cls x c = some k ∧ a.2.2 = (k : Int) := fun a ha => by
  obtain ⟨c, k, _, h1, h2⟩ := runs_mem _ 256 a ha
  exact ⟨c, k, h1, h2⟩
theorem look_runs {g : Nat → Option Nat} {c k : Nat} (hc : c < 256) (hg : g c = some k) : ∃ a ∈ runs g 256, a.2.2 = (k : Int) := by
  have h := (runs_asc g 256).2 c
  rw [if_pos hc, hg] at h
  obtain ⟨a, ha, hk, _⟩ := lookA_some h
  exact ⟨a, ha, hk⟩
theorem metA_apart {d : List St} {cls rep : Nat → Nat} (h : Cls d cls rep) {x : Nat} (hx : x < d.length) {met : List Nat} (ha : Apart cls met) : ∀ A : List Arc3, (∀ a ∈ A, ∃ c k, gOf d cls x c = some k ∧ a.2.2 = (k : Int)) → Apart cls (metA cls rep met A) := by
  intro A
  induction A using rev_ind with
  | h0 => intro _; exact ha
  | h1 l b ih =>
    intro hA
    rw [metA_snoc]
    obtain ⟨c, k, h1, h2⟩ := hA b (by simp)
    obtain ⟨_, _, _, _, _, _, h6⟩ := gOf_rep h hx h1
    refine addC_apart (ih fun a ha => hA a (List.mem_append_left _ ha)) ?_
    rw [h2, Int.toNat_natCast]
    exact h6
theorem metA_lt {d : List St} {cls rep : Nat → Nat} (h : Cls d cls rep) {x : Nat} (hx : x < d.length) {met : List Nat} (hm : ∀ z ∈ met, z < d.length) : ∀ A : List Arc3, (∀ a ∈ A, ∃ c k, gOf d cls x c = some k ∧ a.2.2 = (k : Int)) → ∀ z ∈ metA cls rep met A, z < d.length := by
  intro A
  induction A using rev_ind with
  | h0 => intro _; exact hm
  | h1 l b ih =>
    intro hA z hz
    rw [metA_snoc] at hz
    obtain ⟨c, k, h1, h2⟩ := hA b (by simp)
    obtain ⟨_, _, _, _, _, h5, _⟩ := gOf_rep h hx h1
    unfold addC at hz
    split at hz
    · exact ih (fun a ha => hA a (List.mem_append_left _ ha)) z hz
    · rcases List.mem_append.1 hz with hz | hz
      · exact ih (fun a ha => hA a (List.mem_append_left _ ha)) z hz
      · rw [List.mem_singleton.1 hz, h2, Int.toNat_natCast]
        exact h5
theorem NumP.step {d : List St} {cls rep : Nat → Nat} (hc : Cls d cls rep) {i x : Nat} {met : List Nat} {out : List St} (h : NumP d cls rep i met out) (hx : met[i]? = some x) : NumP d cls rep (i + 1) (metA cls rep met (runs (gOf d cls x) 256)) (out ++ [((auOf d).fin x, numA cls (metA cls rep met (runs (gOf d cls x) 256)) (runs (gOf d cls x) 256))]) := by
  have hxd := h.lt x (List.mem_of_getElem? hx)
  obtain ⟨hrow, hlt⟩ := metA_runs hc hxd h.lt 256 (Nat.le_refl _)
  obtain ⟨more, hmore⟩ := metA_pre (cls := cls) (rep := rep) met (runs (gOf d cls x) 256)
  have hil := (List.getElem?_eq_some_iff.1 hx).1
  have hgot := metA_has hc hxd (met := met) (runs (gOf d cls x) 256) runs_gOf
  refine ⟨?_, hlt, metA_apart hc hxd h.ap _ runs_gOf, fun j y hj hy c k hck hg => ?_, ?_, by rw [hmore, List.length_append]; omega⟩
  · rw [Bfs.run_succ, Nat.zero_add, ← h.run, hx]
    exact hrow
  · by_cases hji : j < i
    · rw [hmore, List.getElem?_append_left (by omega)] at hy
      obtain ⟨q, hq⟩ := h.has j y hji hy c k hck hg
      rw [hmore]
      exact ⟨q, find_more hq⟩
    · obtain rfl : j = i := by omega
      rw [hmore, List.getElem?_append_left (by omega), hx] at hy
      injection hy with hy
      subst hy
      obtain ⟨a, ha, hak⟩ := look_runs hck hg
      obtain ⟨q, hq⟩ := hgot a ha
      rw [hak, Int.toNat_natCast] at hq
      exact ⟨q, hq⟩
  · have htake : (metA cls rep met (runs (gOf d cls x) 256)).take (i + 1) = met.take i ++ [x] := by
      rw [hmore, List.take_append_of_le_length (by omega), List.take_add_one, hx]
      rfl
    rw [htake, List.map_append, h.out_]
    congr 1
    refine List.map_congr_left fun y hy => ?_
    obtain ⟨j, hj⟩ := List.mem_iff_getElem?.1 hy
    rw [List.getElem?_take] at hj
    split at hj
    · rename_i hji
      rw [hmore]
      rw [numA_more fun a ha => by
        obtain ⟨c, k, hg, hk⟩ := runs_gOf a ha
        have hc256 : c < 256 := by
          obtain ⟨c', k', h1, h2, h3⟩ := runs_mem _ 256 a ha
          have hl := (runs_asc (gOf d cls y) 256).2 c
          apply Classical.byContradiction
          intro hn
          obtain ⟨u, hu, _⟩ := Option.map_eq_some_iff.1 hg
          unfold Au.stepL at hu
          cases hs : (auOf d).step y c with
          | none => rw [hs] at hu; cases hu
          | some v =>
            have hs2 : (d[y]?).bind (fun s => (lookA s.2 c).map Int.toNat) = some v := hs
            obtain ⟨s, h4, h5⟩ := Option.bind_eq_some_iff.1 hs2
            obtain ⟨t, h6, _⟩ := Option.map_eq_some_iff.1 h5
            obtain ⟨b, hb, _, hb1, hb2⟩ := lookA_some h6
            have := (hc.good.asc s (List.mem_of_getElem? h4)).ok b hb
            omega
        obtain ⟨q, hq⟩ := h.has j y hji hj c k hc256 hg
        rw [hk, Int.toNat_natCast]
        exact ⟨q, hq⟩]
    · cases hj
theorem NumP.last {d : List St} {cls rep : Nat → Nat} (hc : Cls d cls rep) {i : Nat} {met : List Nat} {out : List St} (h : NumP d cls rep i met out) (hi : i = met.length) (hl : (auOf d).live 0) : LeastIs (auOf d) 0 out := by
  refine .inl ⟨hl, repL d cls rep, repL_leq hc, i, ?_, ?_⟩
  · rw [← h.run, List.getElem?_eq_none_iff]
    omega
  · rw [h.out_, List.take_of_length_le (by omega)]
    unfold leastOf Bfs.out
    rw [← h.run]
    refine List.map_congr_left fun x hx => ?_
    have hxd := h.lt x hx
    obtain ⟨j, hj⟩ := List.mem_iff_getElem?.1 hx
    have hjl := (List.getElem?_eq_some_iff.1 hj).1
    rw [numA_runs hc hxd h.lt fun c k hck hg => h.has j x (by omega) hj c k hck hg]
end Go.Proofs.YtclahhkcbkpofaaDoor
