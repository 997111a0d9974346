/- The fixed automaton of awake, in plain Lean. -/
import Derived.Test.YtebdffabfimmkaaDoorHDfaBoth17
import Derived.Test.YtebdffabfimmkaaDoorHDfaBoth11
import Derived.Test.YtebdffabfimmkaaDoorHDfaBoth7
namespace Go.Proofs.YtebdffabfimmkaaDoor
open Go.RowKit

def oneD : List St := [(false, [(97, 98, 0), (99, 99, 1)]), (true, [])]
def lAw : List Lst := [⟨false, [(97, 98, 0)], [1]⟩, ⟨false, [(99, 99, 2)], []⟩, ⟨true, [], []⟩]
theorem one_good : Good oneD := (good_iff _).1 (by decide)
theorem lAw_good : LGood lAw := (loose_iff _).1 (by decide)
/-- What is met is told apart. -/
theorem row_nodup {σ : Type} [DecidableEq σ] {W : Bfs σ} (hW : Plain W) (P : σ → Prop) (hP : ∀ x c y, W.step x c = some y → P y) (x : σ) {met : List σ} (hn : met.Nodup) (hm : ∀ z ∈ met, P z) : ∀ n, (W.row x met n).Nodup ∧ ∀ z ∈ W.row x met n, P z
  | 0 => ⟨hn, hm⟩
  | n + 1 => by
    obtain ⟨h1, h2⟩ := row_nodup hW P hP x hn hm n
    rw [Bfs.row]
    cases hs : W.step x n with
    | none => exact ⟨h1, h2⟩
    | some y =>
      simp only
      rw [hW.find, hW.rep]
      cases hf : findE y (W.row x met n) with
      | some i => exact ⟨h1, h2⟩
      | none =>
        refine ⟨List.nodup_append.2 ⟨h1, List.pairwise_singleton _ _, fun a ha b hb => ?_⟩, fun z hz => ?_⟩
        · rw [List.mem_singleton.1 hb]
          intro e
          have := findI_none.1 hf a ha
          rw [e] at this
          simp at this
        · rcases List.mem_append.1 hz with hz | hz
          · exact h2 z hz
          · rw [List.mem_singleton.1 hz]; exact hP x n y hs
theorem run_nodup {σ : Type} [DecidableEq σ] {W : Bfs σ} (hW : Plain W) (P : σ → Prop) (hP : ∀ x c y, W.step x c = some y → P y) {x0 : σ} (h0 : P x0) : ∀ f, (W.run f 0 [x0]).Nodup ∧ ∀ z ∈ W.run f 0 [x0], P z
  | 0 => ⟨List.pairwise_singleton _ _, fun z hz => by rw [List.mem_singleton.1 hz]; exact h0⟩
  | f + 1 => by
    obtain ⟨h1, h2⟩ := run_nodup hW P hP h0 f
    rw [W.run_succ]
    split
    · exact row_nodup hW P hP _ h1 h2 256
    · exact ⟨h1, h2⟩
def IsSet (n : Nat) (S : List Int) : Prop := ∃ P, S = setL n P
theorem step_set (l : List Lst) (x : List Int) (c : Nat) (y : List Int) (h : (subW l).step x c = some y) : IsSet l.length y := by
  have h : stepS l x c = some y := h
  unfold stepS at h
  split at h
  · injection h with h
    exact ⟨_, h.symm⟩
  · cases h
def code3 (S : List Int) : Nat := (if (0 : Int) ∈ S then 1 else 0) + (if (1 : Int) ∈ S then 2 else 0) + (if (2 : Int) ∈ S then 4 else 0)
theorem code3_inj {S T : List Int} (hS : IsSet 3 S) (hT : IsSet 3 T) (h : code3 S = code3 T) : S = T := by
  obtain ⟨P, rfl⟩ := hS
  obtain ⟨Q, rfl⟩ := hT
  refine setL_congr fun x hx => ?_
  have e : ∀ (P : Nat → Prop) (y : Nat), y < 3 → (((y : Nat) : Int) ∈ setL 3 P ↔ P y) := fun P y hy => by
    rw [setL_nat]
    exact ⟨fun h => h.2, fun h => ⟨hy, h⟩⟩
  have p0 := e P 0 (by omega)
  have p1 := e P 1 (by omega)
  have p2 := e P 2 (by omega)
  have r0 := e Q 0 (by omega)
  have r1 := e Q 1 (by omega)
  have r2 := e Q 2 (by omega)
  unfold code3 at h
  have hb : ∀ (p q : Prop) [Decidable p] [Decidable q] (k : Nat), (if p then k else 0) = (if q then k else 0) → 0 < k → (p ↔ q) := fun p q _ _ k h hk => by
    by_cases hp : p <;> by_cases hq : q <;> simp [hp, hq] at h ⊢ <;> omega
  have b0 : ∀ p : Prop, [Decidable p] → (if p then 1 else 0) ≤ 1 := fun p _ => by split <;> omega
  have b1 : ∀ p : Prop, [Decidable p] → ((if p then 2 else 0) = 0 ∨ (if p then 2 else 0) = 2) := fun p _ => by split <;> omega
  have b2 : ∀ p : Prop, [Decidable p] → ((if p then 4 else 0) = 0 ∨ (if p then 4 else 0) = 4) := fun p _ => by split <;> omega
  have x0 := b0 ((0 : Int) ∈ setL 3 P); have y0 := b0 ((0 : Int) ∈ setL 3 Q)
  have x1 := b1 ((1 : Int) ∈ setL 3 P); have y1 := b1 ((1 : Int) ∈ setL 3 Q)
  have x2 := b2 ((2 : Int) ∈ setL 3 P); have y2 := b2 ((2 : Int) ∈ setL 3 Q)
  have e0 := hb _ _ 1 (show (if (0 : Int) ∈ setL 3 P then 1 else 0) = (if (0 : Int) ∈ setL 3 Q then 1 else 0) by omega) (by omega)
  have e1 := hb _ _ 2 (show (if (1 : Int) ∈ setL 3 P then 2 else 0) = (if (1 : Int) ∈ setL 3 Q then 2 else 0) by omega) (by omega)
  have e2 := hb _ _ 4 (show (if (2 : Int) ∈ setL 3 P then 4 else 0) = (if (2 : Int) ∈ setL 3 Q then 4 else 0) by omega) (by omega)
  have hx3 : x = 0 ∨ x = 1 ∨ x = 2 := by omega
  rcases hx3 with rfl | rfl | rfl
  · exact p0.symm.trans (e0.trans r0)
  · exact p1.symm.trans (e1.trans r1)
  · exact p2.symm.trans (e2.trans r2)
theorem lAw_few (f : Nat) : ((subW lAw).run f 0 [setL 3 (Clo lAw fun x => x = 0)]).length ≤ 8 := by
  obtain ⟨h1, h2⟩ := run_nodup (subW_plain lAw) (IsSet 3) (fun x c y h => step_set lAw x c y h) (x0 := setL 3 (Clo lAw fun x => x = 0)) ⟨_, rfl⟩ f
  generalize (subW lAw).run f 0 [setL 3 (Clo lAw fun x => x = 0)] = met at *
  have h3 : Apart id (met.map code3) := by
    unfold Apart
    rw [List.pairwise_map]
    have : met.Pairwise fun a b => a ∈ met ∧ b ∈ met ∧ a ≠ b := by
      refine List.Pairwise.and_mem.1 h1
    exact this.imp fun ⟨ha, hb, hne⟩ e => hne (code3_inj (h2 _ ha) (h2 _ hb) e)
  have h4 := apart_few (cnt := 8) h3 fun z hz => by
    obtain ⟨S, _, rfl⟩ := List.mem_map.1 hz
    show code3 S < 8
    unfold code3
    split <;> split <;> split <;> omega
  rwa [List.length_map] at h4
/-! ### What it takes -/
theorem clo0 (x : Nat) : Clo lAw (fun x => x = 0) x ↔ x = 0 ∨ x = 1 := by
  constructor
  · intro h
    induction h with
    | base h => exact .inl h
    | @step y x s _ hs hx ih =>
      rcases ih with rfl | rfl
      · simp [lAw] at hs
        subst hs
        simp at hx
        omega
      · simp [lAw] at hs
        subst hs
        simp at hx
  · rintro (rfl | rfl)
    · exact .base rfl
    · exact .step (y := 0) (s := ⟨false, [(97, 98, 0)], [1]⟩) (.base rfl) rfl (by simp)
theorem clo2 (x : Nat) : Clo lAw (fun x => x = 2) x ↔ x = 2 := by
  constructor
  · intro h
    induction h with
    | base h => exact h
    | @step y x s _ hs hx ih =>
      subst ih
      simp [lAw] at hs
      subst hs
      simp at hx
  · rintro rfl
    exact .base rfl
noncomputable def aS0 : List Int := setL 3 (Clo lAw fun x => x = 0)
noncomputable def aS2 : List Int := setL 3 (Clo lAw fun x => x = 2)
theorem mem0 (z : Int) : z ∈ aS0 ↔ z = 0 ∨ z = 1 := by
  unfold aS0
  rw [setL_mem]
  constructor
  · rintro ⟨x, rfl, _, h⟩
    rcases (clo0 x).1 h with rfl | rfl <;> simp
  · rintro (rfl | rfl)
    · exact ⟨0, rfl, by omega, (clo0 0).2 (.inl rfl)⟩
    · exact ⟨1, rfl, by omega, (clo0 1).2 (.inr rfl)⟩
theorem mem2 (z : Int) : z ∈ aS2 ↔ z = 2 := by
  unfold aS2
  rw [setL_mem]
  constructor
  · rintro ⟨x, rfl, _, h⟩
    rw [(clo2 x).1 h]
    rfl
  · rintro rfl
    exact ⟨2, rfl, by omega, (clo2 2).2 rfl⟩
theorem arcs0 : arcsAt lAw 0 = [(97, 98, 0)] := rfl
theorem arcs1 : arcsAt lAw 1 = [(99, 99, 2)] := rfl
theorem arcs2 : arcsAt lAw 2 = [] := rfl
theorem over0 (c x : Nat) : overP lAw aS0 c x ↔ (97 ≤ c ∧ c ≤ 98 ∧ x = 0) ∨ (c = 99 ∧ x = 2) := by
  unfold overP
  constructor
  · rintro ⟨z, hz, a, ha, h1, h2, h3⟩
    rcases (mem0 z).1 hz with rfl | rfl
    · rw [arcs0, List.mem_singleton] at ha
      subst ha
      simp only at h1 h2 h3
      omega
    · rw [arcs1, List.mem_singleton] at ha
      subst ha
      simp only at h1 h2 h3
      omega
  · rintro (⟨h1, h2, rfl⟩ | ⟨rfl, rfl⟩)
    · exact ⟨0, (mem0 0).2 (.inl rfl), (97, 98, 0), by rw [arcs0]; simp, by simp only; omega, by simp only; omega, rfl⟩
    · exact ⟨1, (mem0 1).2 (.inr rfl), (99, 99, 2), by rw [arcs1]; simp, by simp, by simp, rfl⟩
theorem over2 (c x : Nat) : ¬ overP lAw aS2 c x := by
  rintro ⟨z, hz, a, ha, _⟩
  rw [(mem2 z).1 hz, arcs2] at ha
  cases ha
theorem step0 (c : Nat) : stepS lAw aS0 c = if 97 ≤ c ∧ c ≤ 98 then some aS0 else if c = 99 then some aS2 else none := by
  unfold stepS
  by_cases h1 : 97 ≤ c ∧ c ≤ 98
  · have e : overP lAw aS0 c = fun x => x = 0 := funext fun x => propext (by rw [over0]; omega)
    rw [if_pos h1, e, if_pos ⟨0, rfl⟩]
    rfl
  · rw [if_neg h1]
    by_cases h2 : c = 99
    · have e : overP lAw aS0 c = fun x => x = 2 := funext fun x => propext (by rw [over0]; omega)
      rw [if_pos h2, e, if_pos ⟨2, rfl⟩]
      rfl
    · rw [if_neg h2, if_neg]
      rintro ⟨x, hx⟩
      rw [over0] at hx
      omega
theorem step2 (c : Nat) : stepS lAw aS2 c = none := by
  unfold stepS
  rw [if_neg]
  rintro ⟨x, hx⟩
  exact over2 c x hx
theorem fin0 : finS lAw aS0 = false := by
  unfold finS
  rw [List.any_eq_false]
  intro z hz
  rcases (mem0 z).1 hz with rfl | rfl <;> decide
theorem fin2 : finS lAw aS2 = true := by
  unfold finS
  rw [List.any_eq_true]
  exact ⟨2, (mem2 2).2 rfl, by decide⟩
theorem ostep0 (c : Nat) : (auOf oneD).step 0 c = if 97 ≤ c ∧ c ≤ 98 then some 0 else if c = 99 then some 1 else none := by
  show (lookA [(97, 98, 0), (99, 99, 1)] (c : Int)).map Int.toNat = _
  rw [lookA_cons, lookA_cons]
  by_cases h1 : 97 ≤ c ∧ c ≤ 98
  · rw [if_pos h1, if_pos (by simp only; omega)]
    rfl
  · rw [if_neg h1, if_neg (by simp only; omega)]
    by_cases h2 : c = 99
    · rw [if_pos h2, if_pos (by simp only; omega)]
      rfl
    · rw [if_neg h2, if_neg (by simp only; omega)]
      rfl
theorem ostep1 (c : Nat) : (auOf oneD).step 1 c = none := rfl
theorem aw_leq : Leq (auOf oneD) 0 ⟨finS lAw, stepS lAw⟩ aS0 := by
  have h2 : ∀ s, (auOf oneD).acc 1 s = (⟨finS lAw, stepS lAw⟩ : Au (List Int)).acc aS2 s := fun s => by
    cases s with
    | nil => exact fin2.symm
    | cons c r =>
      rw [Au.acc, Au.acc, ostep1]
      have hs : (⟨finS lAw, stepS lAw⟩ : Au (List Int)).step aS2 c = none := step2 c
      rw [hs]
  intro s
  induction s with
  | nil => exact fin0.symm
  | cons c r ih =>
    rw [Au.acc, Au.acc, ostep0]
    have hs : (⟨finS lAw, stepS lAw⟩ : Au (List Int)).step aS0 c = if 97 ≤ c ∧ c ≤ 98 then some aS0 else if c = 99 then some aS2 else none := step0 c
    rw [hs]
    split
    · by_cases h1 : 97 ≤ c ∧ c ≤ 98
      · rw [if_pos h1, if_pos h1]; exact ih
      · rw [if_neg h1, if_neg h1]
        by_cases h2' : c = 99
        · rw [if_pos h2', if_pos h2']; exact h2 r
        · rw [if_neg h2', if_neg h2']
    · rfl
theorem olive1 : (auOf oneD).live 1 := ⟨[], rfl⟩
theorem olive0 : (auOf oneD).live 0 := ⟨[99], rfl⟩
theorem ostepL0 (c : Nat) : (auOf oneD).stepL 0 c = if 97 ≤ c ∧ c ≤ 98 then some 0 else if c = 99 then some 1 else none := by
  unfold Au.stepL
  rw [ostep0]
  by_cases h1 : 97 ≤ c ∧ c ≤ 98
  · rw [if_pos h1]
    simp only
    rw [if_pos olive0]
  · rw [if_neg h1]
    by_cases h2 : c = 99
    · rw [if_pos h2]
      simp only
      rw [if_pos olive1]
    · rw [if_neg h2]
theorem ostepL1 (c : Nat) : (auOf oneD).stepL 1 c = none := by
  unfold Au.stepL
  rw [ostep1]
theorem one_cls : Cls oneD id id := by
  have hne : ¬ Leq (auOf oneD) 0 (auOf oneD) 1 := fun h => by
    have := h []
    exact absurd this (by decide)
  refine ⟨one_good, fun x hx y hy => ?_, fun x hx _ => ⟨hx, rfl⟩⟩
  have hx : x < 2 := hx
  have hy : y < 2 := hy
  have hx2 : x = 0 ∨ x = 1 := by omega
  have hy2 : y = 0 ∨ y = 1 := by omega
  rcases hx2 with rfl | rfl <;> rcases hy2 with rfl | rfl
  · exact ⟨fun _ => Leq.refl _ _, fun _ => rfl⟩
  · exact ⟨fun h => (by cases h), fun h => absurd h hne⟩
  · exact ⟨fun h => (by cases h), fun h => absurd h.symm hne⟩
  · exact ⟨fun _ => Leq.refl _ _, fun _ => rfl⟩
theorem og0 : runs (gOf oneD id 0) 256 = [(97, 98, 0), (99, 99, 1)] := by
  have e : ∀ c, gOf oneD id 0 c = if 97 ≤ c ∧ c ≤ 98 then some 0 else if c = 99 then some 1 else none := fun c => by
    unfold gOf
    rw [ostepL0]
    simp
  rw [runs_congr 256 fun c _ => e c]
  decide +kernel
theorem og1 : runs (gOf oneD id 1) 256 = [] := by
  have e : ∀ c, gOf oneD id 1 c = none := fun c => by
    unfold gOf
    rw [ostepL1]
    rfl
  rw [runs_congr 256 fun c _ => e c]
  decide +kernel
theorem one_least : LeastIs (auOf oneD) 0 oneD := by
  have h0 := NumP.start one_cls
  have h1 := h0.step one_cls (x := 0) rfl
  rw [og0] at h1
  have e1 : metA id id [0] [(97, 98, 0), (99, 99, 1)] = [0, 1] := by decide
  rw [e1] at h1
  have h2 := h1.step one_cls (x := 1) rfl
  rw [og1] at h2
  have e2 : metA id id [0, 1] [] = [0, 1] := rfl
  rw [e2] at h2
  have h3 := h2.last one_cls rfl olive0
  exact h3
end Go.Proofs.YtebdffabfimmkaaDoor
/- The automaton of pairs of states (plain Lean). -/
namespace Go.Proofs.YtebdffabfimmkaaDoor
open Go.RowKit

def arcsS (d : List St) (z : Int) : List Arc3 := ((d[z.toNat]?).map (·.2)).getD []
def finD (d : List St) (z : Int) : Bool := ((d[z.toNat]?).map (·.1)).getD false
/-- Where two arcs' ends lead. -/
def pairO : Option Int → Option Int → Option (List Int)
  | some p, some q => some [p, q]
  | _, _ => none
def stepP (a b : List St) : List Int → Nat → Option (List Int)
  | [x, y], c => pairO (lookA (arcsS a x) c) (lookA (arcsS b y) c)
  | _, _ => none
def finP (a b : List St) : List Int → Bool
  | [x, y] => finD a x && finD b y
  | _ => false
def pairW (a b : List St) : Bfs (List Int) := ⟨stepP a b, fun z y => decide (z = y), id⟩
theorem pairW_plain (a b : List St) : Plain (pairW a b) := ⟨fun _ _ => rfl, fun _ => rfl⟩
/-- It takes what both take. -/
theorem pair_acc (a b : List St) : ∀ (s : List Nat) (x y : Int), (⟨finP a b, stepP a b⟩ : Au (List Int)).acc [x, y] s = ((auOf a).acc x.toNat s && (auOf b).acc y.toNat s)
  | [], x, y => rfl
  | c :: r, x, y => by
    have st : ∀ (d : List St) (z : Int), (auOf d).step z.toNat c = (lookA (arcsS d z) c).map Int.toNat := fun d z => by
      show (d[z.toNat]?).bind _ = _
      unfold arcsS
      cases d[z.toNat]? with
      | none => rfl
      | some s => rfl
    rw [Au.acc, Au.acc, Au.acc]
    by_cases hc : c < 256
    · rw [if_pos hc, if_pos hc, if_pos hc, st, st]
      have e : (⟨finP a b, stepP a b⟩ : Au (List Int)).step [x, y] c = pairO (lookA (arcsS a x) c) (lookA (arcsS b y) c) := rfl
      rw [e]
      cases lookA (arcsS a x) c with
      | none => simp [pairO]
      | some p =>
        cases lookA (arcsS b y) c with
        | none => simp [pairO]
        | some q => exact pair_acc a b r p q
    · rw [if_neg hc, if_neg hc, if_neg hc]
      rfl
theorem Asc.look {l : List Arc3} {n : Int} (h : Asc l n) {p : Arc3} {c : Int} (hp : p ∈ l) (h1 : p.1 ≤ c) (h2 : c ≤ p.2.1) : lookA l c = some p.2.2 := by
  induction l with
  | nil => cases hp
  | cons a r ih =>
    rw [lookA_cons]
    obtain ⟨ha, hr⟩ := List.pairwise_cons.1 h.lt
    rcases List.mem_cons.1 hp with rfl | hp
    · rw [if_pos ⟨h1, h2⟩]
    · have := ha p hp
      rw [if_neg (by omega)]
      exact ih ⟨hr, fun a ha => h.ok a (List.mem_cons_of_mem _ ha)⟩ hp
theorem look_some {l : List Arc3} {c t : Int} (h : lookA l c = some t) : ∃ p ∈ l, p.1 ≤ c ∧ c ≤ p.2.1 ∧ p.2.2 = t := by
  unfold lookA at h
  obtain ⟨a, ha, rfl⟩ := Option.map_eq_some_iff.1 h
  have := List.find?_some ha
  simp at this
  exact ⟨a, List.mem_of_find?_eq_some ha, this.1, this.2, rfl⟩
theorem asc_after {l : List Arc3} {n : Int} (h : Asc l n) {i j : Nat} {p q : Arc3} (hi : l[i]? = some p) (hj : l[j]? = some q) (hij : i < j) : p.2.1 < q.1 := by
  obtain ⟨h1, rfl⟩ := List.getElem?_eq_some_iff.1 hi
  obtain ⟨h2, rfl⟩ := List.getElem?_eq_some_iff.1 hj
  exact List.pairwise_iff_getElem.1 h.lt i j h1 h2 hij
/-- Pairs of arcs are gone through: those ahead of the k-th and j-th stand below b, the others from b on. -/
structure PosP (pa qa : List Arc3) (k j b : Nat) : Prop where
  gone : ∀ (k' j' : Nat) p q, pa[k']? = some p → qa[j']? = some q → (k' < k ∨ k' = k ∧ j' < j) → max p.1 q.1 ≤ min p.2.1 q.2.1 → min p.2.1 q.2.1 < (b : Int)
  left : ∀ (k' j' : Nat) p q, pa[k']? = some p → qa[j']? = some q → (k < k' ∨ k = k' ∧ j ≤ j') → (b : Int) ≤ max p.1 q.1
  le : b ≤ 256
section
variable {pa qa : List Arc3} {k j b : Nat}
theorem PosP.start (hp : Asc pa 256) : PosP pa qa 0 0 0 := ⟨fun k' j' p q _ _ h => by omega, fun k' j' p q h1 h2 _ => by
  have := hp.ok p (List.mem_of_getElem? h1)
  omega, by omega⟩
theorem PosP.pass {p q : Arc3} (h : PosP pa qa k j b) (hp : pa[k]? = some p) (hq : qa[j]? = some q) (hn : ¬ max p.1 q.1 ≤ min p.2.1 q.2.1) : PosP pa qa k (j + 1) b := by
  refine ⟨fun k' j' p' q' h1 h2 h3 h4 => ?_, fun k' j' p' q' h1 h2 h3 => h.left k' j' p' q' h1 h2 (by omega), h.le⟩
  by_cases e : k' = k ∧ j' = j
  · obtain ⟨rfl, rfl⟩ := e
    rw [hp] at h1; rw [hq] at h2
    injection h1 with h1; injection h2 with h2
    subst h1 h2
    exact absurd h4 hn
  · exact h.gone k' j' p' q' h1 h2 (by omega) h4
theorem PosP.take {p q : Arc3} {u v : Nat} (hpa : Asc pa 256) (hqa : Asc qa 256) (h : PosP pa qa k j b) (hp : pa[k]? = some p) (hq : qa[j]? = some q) (hu : max p.1 q.1 = (u : Int)) (hv : min p.2.1 q.2.1 = (v : Int)) (hn : u ≤ v) : PosP pa qa k (j + 1) (v + 1) := by
  have o1 := hpa.ok p (List.mem_of_getElem? hp)
  have hb := h.left k j p q hp hq (.inr ⟨rfl, Nat.le_refl _⟩)
  refine ⟨fun k' j' p' q' h1 h2 h3 h4 => ?_, fun k' j' p' q' h1 h2 h3 => ?_, by omega⟩
  · by_cases e : k' = k ∧ j' = j
    · obtain ⟨rfl, rfl⟩ := e
      rw [hp] at h1; rw [hq] at h2
      injection h1 with h1; injection h2 with h2
      subst h1 h2
      omega
    · have := h.gone k' j' p' q' h1 h2 (by omega) h4
      omega
  · by_cases e : k < k'
    · have := asc_after hpa hp h1 e
      omega
    · have := asc_after hqa hq h2 (show j < j' by omega)
      omega
theorem PosP.next (h : PosP pa qa k j b) (hj : qa.length ≤ j) : PosP pa qa (k + 1) 0 b :=
  ⟨fun k' j' p q h1 h2 h3 h4 => h.gone k' j' p q h1 h2 (by have := (List.getElem?_eq_some_iff.1 h2).1; omega) h4, fun k' j' p q h1 h2 h3 => h.left k' j' p q h1 h2 (by omega), h.le⟩
variable {a b' : List St} {x y : Int}
/-- Between the pairs nothing leads. -/
theorem PosP.gap {p q : Arc3} {u v c : Nat} (hpa : Asc pa 256) (hqa : Asc qa 256) (h : PosP pa qa k j b) (hp : pa[k]? = some p) (hq : qa[j]? = some q) (hu : max p.1 q.1 = (u : Int)) (hv : min p.2.1 q.2.1 = (v : Int)) (hn : u ≤ v) (h1 : b ≤ c) (h2 : c < u) : pairO (lookA pa c) (lookA qa c) = none := by
  cases hs : lookA pa c with
  | none => rfl
  | some s =>
    cases ht : lookA qa c with
    | none => rfl
    | some t =>
      obtain ⟨p', a1, a2, a3, _⟩ := look_some hs
      obtain ⟨q', b1, b2, b3, _⟩ := look_some ht
      obtain ⟨k', hk'⟩ := List.mem_iff_getElem?.1 a1
      obtain ⟨j', hj'⟩ := List.mem_iff_getElem?.1 b1
      exfalso
      by_cases e : k' < k ∨ k' = k ∧ j' < j
      · have := h.gone k' j' p' q' hk' hj' e (by omega)
        omega
      · by_cases e' : k' = k ∧ j' = j
        · obtain ⟨rfl, rfl⟩ := e'
          rw [hp] at hk'; rw [hq] at hj'
          injection hk' with h1; injection hj' with h2
          subst h1 h2
          omega
        · have := (h.take hpa hqa hp hq hu hv hn).left k' j' p' q' hk' hj' (by omega)
          omega
theorem PosP.rest {c : Nat} (h : PosP pa qa k 0 b) (hk : pa.length ≤ k) (h1 : b ≤ c) : pairO (lookA pa c) (lookA qa c) = none := by
  cases hs : lookA pa c with
  | none => rfl
  | some s =>
    cases ht : lookA qa c with
    | none => rfl
    | some t =>
      obtain ⟨p', a1, a2, a3, _⟩ := look_some hs
      obtain ⟨q', b1, b2, b3, _⟩ := look_some ht
      obtain ⟨k', hk'⟩ := List.mem_iff_getElem?.1 a1
      obtain ⟨j', hj'⟩ := List.mem_iff_getElem?.1 b1
      have := (List.getElem?_eq_some_iff.1 hk').1
      have := h.gone k' j' p' q' hk' hj' (by omega) (by omega)
      omega
end
section
variable {a e : List St} {fin fin0 : List Int → Bool} {x0 : List Int} {i k j b : Nat} {x y : Int} {met met1 : List (List Int)} {arcs : List Arc3} {fc : Bool} {ds : List St}
/-- Bytes that lead nowhere are passed. -/
theorem MidP.pass_ {b2 : Nat} (h : MidP (pairW a e) fin fin0 x0 i met [x, y] b met1 arcs fc ds) (hb : b ≤ b2) (hn : ∀ c : Nat, b ≤ c → c < b2 → pairO (lookA (arcsS a x) c) (lookA (arcsS e y) c) = none) : MidP (pairW a e) fin fin0 x0 i met [x, y] b2 met1 arcs fc ds := by
  rcases Nat.lt_or_ge b b2 with hl | hl
  · obtain ⟨m, rfl⟩ : ∃ m, b2 = b + (m + 1) := ⟨b2 - b - 1, by omega⟩
    exact h.skip (pairW_plain a e) (fun c h1 h2 => (hn c h1 h2).trans (hn b (Nat.le_refl _) (by omega)).symm) (hn b (Nat.le_refl _) (by omega))
  · obtain rfl : b = b2 := by omega
    exact h
/-- Two arcs that meet lead to their pair. -/
theorem MidP.meet {p q : Arc3} {u v : Nat} (hpa : Asc (arcsS a x) 256) (hqa : Asc (arcsS e y) 256) (hP : PosP (arcsS a x) (arcsS e y) k j b) (hp : (arcsS a x)[k]? = some p) (hq : (arcsS e y)[j]? = some q) (hu : max p.1 q.1 = (u : Int)) (hv : min p.2.1 q.2.1 = (v : Int)) (hn : u ≤ v)
    (h : MidP (pairW a e) fin fin0 x0 i met [x, y] b met1 arcs fc ds) :
    (∀ n, findE [p.2.2, q.2.2] met1 = some n → MidP (pairW a e) fin fin0 x0 i met [x, y] (v + 1) met1 (joinA arcs ((u : Int), (v : Int), (n : Int))) fc ds) ∧
    (findE [p.2.2, q.2.2] met1 = none → MidP (pairW a e) fin fin0 x0 i met [x, y] (v + 1) (met1 ++ [[p.2.2, q.2.2]]) (joinA arcs ((u : Int), (v : Int), (met1.length : Int))) fc (ds ++ [(fin0 [p.2.2, q.2.2], [])])) := by
  have hb := hP.left k j p q hp hq (.inr ⟨rfl, Nat.le_refl _⟩)
  have h1 := h.pass_ (b2 := u) (by omega) fun c c1 c2 => hP.gap hpa hqa hp hq hu hv hn c1 c2
  obtain ⟨m, rfl⟩ : ∃ m, v = u + m := ⟨v - u, by omega⟩
  have hs : ∀ c : Nat, u ≤ c → c < u + (m + 1) → (pairW a e).step [x, y] c = some [p.2.2, q.2.2] := fun c c1 c2 => by
    show pairO (lookA (arcsS a x) c) (lookA (arcsS e y) c) = _
    rw [hpa.look (List.mem_of_getElem? hp) (by omega) (by omega), hqa.look (List.mem_of_getElem? hq) (by omega) (by omega)]
    rfl
  have hu0 := hs u (Nat.le_refl _) (by omega)
  exact ⟨fun n hf => h1.old (pairW_plain a e) (fun c c1 c2 => (hs c c1 c2).trans hu0.symm) hu0 hf, fun hf => h1.new (pairW_plain a e) (fun c c1 c2 => (hs c c1 c2).trans hu0.symm) hu0 hf⟩
end
/-! ### How many pairs there are -/
def IsPair (n m : Nat) (S : List Int) : Prop := ∃ u v : Nat, u < n ∧ v < m ∧ S = [(u : Int), (v : Int)]
theorem arcsS_to {d : List St} (h : Good d) {z c t : Int} (hl : lookA (arcsS d z) c = some t) : 0 ≤ t ∧ t < (d.length : Int) := by
  obtain ⟨p, hp, _, _, rfl⟩ := look_some hl
  unfold arcsS at hp
  cases hs : d[z.toNat]? with
  | none => rw [hs] at hp; cases hp
  | some s =>
    rw [hs] at hp
    exact h.to_ s (List.mem_of_getElem? hs) p hp
theorem step_pair {a e : List St} (ha : Good a) (he : Good e) (x : List Int) (c : Nat) (y : List Int) (h : (pairW a e).step x c = some y) : IsPair a.length e.length y := by
  replace h : stepP a e x c = some y := h
  unfold stepP at h
  split at h
  · rename_i u v
    cases hs : lookA (arcsS a u) c with
    | none => rw [hs] at h; cases h
    | some s =>
      cases ht : lookA (arcsS e v) c with
      | none => rw [hs, ht] at h; cases h
      | some t =>
        rw [hs, ht] at h
        injection h with h
        have h1 := arcsS_to ha hs
        have h2 := arcsS_to he ht
        exact ⟨s.toNat, t.toNat, by omega, by omega, by rw [← h, show ((s.toNat : Nat) : Int) = s by omega, show ((t.toNat : Nat) : Int) = t by omega]⟩
  · cases h
def codeP (m : Nat) : List Int → Nat
  | [x, y] => x.toNat * m + y.toNat
  | _ => 0
theorem pair_few {a e : List St} (ha : Good a) (he : Good e) (f : Nat) : ((pairW a e).run f 0 [[0, 0]]).length ≤ a.length * e.length := by
  have la := List.length_pos_iff.2 ha.ne
  have le := List.length_pos_iff.2 he.ne
  obtain ⟨h1, h2⟩ := run_nodup (pairW_plain a e) (IsPair a.length e.length) (fun x c y h => step_pair ha he x c y h) (x0 := [0, 0]) ⟨0, 0, la, le, rfl⟩ f
  generalize (pairW a e).run f 0 [[0, 0]] = met at *
  have h3 : Apart id (met.map (codeP e.length)) := by
    unfold Apart
    rw [List.pairwise_map]
    have : met.Pairwise fun a b => a ∈ met ∧ b ∈ met ∧ a ≠ b := List.Pairwise.and_mem.1 h1
    refine this.imp fun ⟨hx, hy, hne⟩ e' => hne ?_
    obtain ⟨u, v, u1, v1, rfl⟩ := h2 _ hx
    obtain ⟨s, t, s1, t1, rfl⟩ := h2 _ hy
    have e' : u * e.length + v = s * e.length + t := e'
    have e1 : v = t := by
      have := congrArg (· % e.length) e'
      simp only [Nat.mul_add_mod_self_right] at this
      rwa [Nat.mod_eq_of_lt v1, Nat.mod_eq_of_lt t1] at this
    subst e1
    have e2 : u = s := Nat.eq_of_mul_eq_mul_right le (Nat.add_right_cancel e')
    subst e2
    rfl
  have h4 := apart_few (cnt := a.length * e.length) h3 fun z hz => by
    obtain ⟨S, hS, rfl⟩ := List.mem_map.1 hz
    obtain ⟨u, v, u1, v1, rfl⟩ := h2 _ hS
    show u * e.length + v < a.length * e.length
    have : (u + 1) * e.length ≤ a.length * e.length := Nat.mul_le_mul_right _ u1
    rw [Nat.add_mul, Nat.one_mul] at this
    omega
  rwa [List.length_map] at h4
end Go.Proofs.YtebdffabfimmkaaDoor
