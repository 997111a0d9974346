/- Automata in plain Lean: what they take, states that take the same, the least automaton as it is numbered. -/
import Derived.Test.YtclahhkcbkpofaaDoorHFz1
namespace Go.Proofs.YtclahhkcbkpofaaDoor
/-- An arc: from, to (bytes), the state. -/
abbrev Arc3 := Int × Int × Int
/-- One byte more behind arcs. -/
def growA (l : List Arc3) (c k : Int) : List Arc3 := match l.getLast? with
  | some a => if a.2.1 + 1 = c ∧ a.2.2 = k then l.dropLast ++ [(a.1, c, k)] else l ++ [(c, c, k)]
  | none => [(c, c, k)]
/-- The arcs of a function of bytes, up to a byte. -/
def runs (g : Nat → Option Nat) : Nat → List Arc3
  | 0 => []
  | c + 1 => match g c with
    | none => runs g c
    | some k => growA (runs g c) c k
/-- One arc more behind arcs. -/
def joinA (l : List Arc3) (x : Arc3) : List Arc3 := match l.getLast? with
  | some a => if a.2.2 = x.2.2 ∧ a.2.1 + 1 = x.1 then l.dropLast ++ [(a.1, x.2.1, a.2.2)] else l ++ [x]
  | none => [x]
theorem joinA_one (l : List Arc3) (c k : Int) : joinA l (c, c, k) = growA l c k := by
  unfold joinA growA
  split
  · rename_i a _
    by_cases h : a.2.2 = k ∧ a.2.1 + 1 = c
    · rw [if_pos h, if_pos ⟨h.2, h.1⟩, h.1]
    · rw [if_neg h, if_neg fun h' => h ⟨h'.2, h'.1⟩]
  · rfl
theorem joinA_grow (l : List Arc3) (lo hi k : Int) : growA (joinA l (lo, hi, k)) (hi + 1) k = joinA l (lo, hi + 1, k) := by
  have key : ∀ (m : List Arc3) (a : Int), growA (m ++ [(a, hi, k)]) (hi + 1) k = m ++ [(a, hi + 1, k)] := by
    intro m a
    unfold growA
    rw [List.getLast?_append]
    simp
  unfold joinA
  split
  · rename_i a ha
    by_cases h : a.2.2 = k ∧ a.2.1 + 1 = lo
    · rw [if_pos h, if_pos h, h.1]
      exact key _ _
    · rw [if_neg h, if_neg h]
      exact key _ _
  · exact key [] lo
/-- Bytes of one kind are one arc. -/
theorem runs_const (g : Nat → Option Nat) (lo : Nat) (k : Nat) : ∀ n, (∀ c, lo ≤ c → c < lo + (n + 1) → g c = some k) → runs g (lo + (n + 1)) = joinA (runs g lo) ((lo : Int), ((lo + n : Nat) : Int), (k : Int))
  | 0, h => by
    show runs g (lo + 1) = _
    rw [runs, h lo (Nat.le_refl _) (by omega)]
    exact (joinA_one _ _ _).symm
  | n + 1, h => by
    have ih := runs_const g lo k n fun c h1 h2 => h c h1 (by omega)
    show runs g (lo + (n + 1) + 1) = _
    rw [runs, h (lo + (n + 1)) (by omega) (by omega), ih]
    have e : ((lo + (n + 1) : Nat) : Int) = ((lo + n : Nat) : Int) + 1 := by omega
    show growA _ ((lo + (n + 1) : Nat) : Int) k = _
    rw [e]
    exact joinA_grow _ _ _ _
theorem runs_none (g : Nat → Option Nat) (lo : Nat) : ∀ n, (∀ c, lo ≤ c → c < lo + n → g c = none) → runs g (lo + n) = runs g lo
  | 0, _ => rfl
  | n + 1, h => by
    show runs g (lo + n + 1) = _
    rw [runs, h (lo + n) (by omega) (by omega)]
    exact runs_none g lo n fun c h1 h2 => h c h1 (by omega)
theorem runs_congr {g g' : Nat → Option Nat} : ∀ n, (∀ c, c < n → g c = g' c) → runs g n = runs g' n
  | 0, _ => rfl
  | n + 1, h => by rw [runs, runs, h n (by omega), runs_congr n fun c hc => h c (by omega)]

/-- An automaton: which states are final, where a byte leads. -/
structure Au (σ : Type) where
  fin : σ → Bool
  step : σ → Nat → Option σ
def Au.acc {σ : Type} (M : Au σ) : σ → List Nat → Bool
  | x, [] => M.fin x
  | x, c :: r => if c < 256 then match M.step x c with
    | some y => M.acc y r
    | none => false else false
/-- Two states take the same texts. -/
def Leq {σ τ : Type} (M : Au σ) (x : σ) (N : Au τ) (y : τ) : Prop := ∀ s, M.acc x s = N.acc y s
section
variable {σ τ ρ : Type} {M : Au σ} {N : Au τ} {L : Au ρ} {x : σ} {y : τ} {z : ρ}
theorem Leq.refl (M : Au σ) (x : σ) : Leq M x M x := fun _ => rfl
theorem Leq.symm (h : Leq M x N y) : Leq N y M x := fun s => (h s).symm
theorem Leq.trans (h : Leq M x N y) (h' : Leq N y L z) : Leq M x L z := fun s => (h s).trans (h' s)
theorem Leq.fin (h : Leq M x N y) : M.fin x = N.fin y := h []
end
def Au.live {σ : Type} (M : Au σ) (x : σ) : Prop := ∃ s, M.acc x s = true
theorem Leq.live {σ τ : Type} {M : Au σ} {N : Au τ} {x : σ} {y : τ} (h : Leq M x N y) : M.live x ↔ N.live y :=
  ⟨fun ⟨s, hs⟩ => ⟨s, (h s).symm.trans hs⟩, fun ⟨s, hs⟩ => ⟨s, (h s).trans hs⟩⟩
open Classical in
/-- Where a byte leads, if something final is reached from there. -/
noncomputable def Au.stepL {σ : Type} (M : Au σ) (x : σ) (c : Nat) : Option σ := match M.step x c with
  | some y => if M.live y then some y else none
  | none => none
theorem Leq.step {σ τ : Type} {M : Au σ} {N : Au τ} {x : σ} {y : τ} (h : Leq M x N y) {c : Nat} (hc : c < 256) : match M.stepL x c, N.stepL y c with
    | some u, some v => Leq M u N v
    | none, none => True
    | _, _ => False := by
  have key : ∀ s, (match M.step x c with | some u => M.acc u s | none => false) = (match N.step y c with | some v => N.acc v s | none => false) := by
    intro s
    have := h (c :: s)
    simpa only [Au.acc, if_pos hc] using this
  unfold Au.stepL
  cases hx : M.step x c with
  | none =>
    cases hy : N.step y c with
    | none => trivial
    | some v =>
      rw [hx, hy] at key
      have : ¬ N.live v := fun ⟨s, hs⟩ => by
        have := key s
        simp only at this
        rw [hs] at this
        cases this
      simp only [if_neg this]
  | some u =>
    cases hy : N.step y c with
    | none =>
      rw [hx, hy] at key
      have : ¬ M.live u := fun ⟨s, hs⟩ => by
        have := key s
        simp only at this
        rw [hs] at this
        cases this
      simp only [if_neg this]
    | some v =>
      rw [hx, hy] at key
      have huv : Leq M u N v := key
      by_cases hl : M.live u
      · simp only [if_pos hl, if_pos (huv.live.1 hl)]
        exact huv
      · simp only [if_neg hl, if_neg fun h => hl (huv.live.2 h)]

/-! ### States that are met, in their order -/
/-- The place of a state in a list, by a test. -/
def findI {σ : Type} (p : σ → Bool) : List σ → Option Nat
  | [] => none
  | x :: r => if p x then some 0 else (findI p r).map (· + 1)
theorem findI_some {σ : Type} {p : σ → Bool} : ∀ {l : List σ} {i : Nat}, findI p l = some i → ∃ x, l[i]? = some x ∧ p x = true
  | x :: r, i, h => by
    rw [findI] at h
    split at h
    · rename_i hp
      injection h with h
      subst h
      exact ⟨x, rfl, hp⟩
    · obtain ⟨j, hj, rfl⟩ := Option.map_eq_some_iff.1 h
      obtain ⟨y, h1, h2⟩ := findI_some hj
      exact ⟨y, by rw [List.getElem?_cons_succ]; exact h1, h2⟩
theorem findI_none {σ : Type} {p : σ → Bool} : ∀ {l : List σ}, findI p l = none ↔ ∀ x ∈ l, p x = false
  | [] => by simp [findI]
  | x :: r => by
    rw [findI]
    split
    · rename_i hp
      simp [hp]
    · rename_i hp
      rw [Option.map_eq_none_iff, findI_none]
      simp [Bool.not_eq_true] at hp ⊢
      simp [hp]
theorem findI_append {σ : Type} {p : σ → Bool} : ∀ (l m : List σ), findI p (l ++ m) = match findI p l with
    | some i => some i
    | none => (findI p m).map (· + l.length)
  | [], m => by simp [findI]
  | x :: r, m => by
    rw [List.cons_append, findI, findI]
    split
    · rfl
    · rw [findI_append r m]
      cases findI p r with
      | some i => rfl
      | none =>
        cases findI p m with
        | some i => simp; omega
        | none => rfl
/-- Two lists, paired. -/
inductive All2 {σ τ : Type} (R : σ → τ → Prop) : List σ → List τ → Prop
  | nil : All2 R [] []
  | cons {x : σ} {y : τ} {l : List σ} {m : List τ} (h : R x y) (hr : All2 R l m) : All2 R (x :: l) (y :: m)
section
variable {σ τ : Type} {R : σ → τ → Prop}
theorem All2.len : ∀ {l : List σ} {m : List τ}, All2 R l m → l.length = m.length
  | [], [], .nil => rfl
  | _ :: _, _ :: _, .cons _ hr => by rw [List.length_cons, List.length_cons, hr.len]
theorem All2.snoc : ∀ {l : List σ} {m : List τ} {x : σ} {y : τ}, All2 R l m → R x y → All2 R (l ++ [x]) (m ++ [y])
  | [], [], _, _, .nil, h => .cons h .nil
  | _ :: _, _ :: _, _, _, .cons h hr, h' => .cons h (hr.snoc h')
theorem All2.get : ∀ {l : List σ} {m : List τ} (_ : All2 R l m) (i : Nat), match l[i]?, m[i]? with
    | some x, some y => R x y
    | none, none => True
    | _, _ => False
  | [], [], .nil, i => by simp
  | x :: r, y :: t, .cons h hr, i => by
    cases i with
    | zero => simpa using h
    | succ i => simpa using hr.get i
end
theorem findI_pair {σ τ : Type} {R : σ → τ → Prop} {p : σ → Bool} {q : τ → Bool} (hpq : ∀ x y, R x y → p x = q y) : ∀ {l : List σ} {m : List τ}, All2 R l m → findI p l = findI q m
  | [], [], .nil => rfl
  | x :: r, y :: t, .cons h hr => by
    rw [findI, findI, hpq x y h, findI_pair hpq hr]
/-- A walk that numbers what it meets: where bytes lead, what counts as the same, which one stands for all. -/
structure Bfs (σ : Type) where
  step : σ → Nat → Option σ
  eqv : σ → σ → Bool
  rep : σ → σ
/-- The states met by the bytes below c of one state. -/
def Bfs.row {σ : Type} (W : Bfs σ) (x : σ) (met : List σ) : Nat → List σ
  | 0 => met
  | c + 1 => match W.step x c with
    | none => W.row x met c
    | some y => match findI (fun z => W.eqv z y) (W.row x met c) with
      | some _ => W.row x met c
      | none => W.row x met c ++ [W.rep y]
def Bfs.num {σ : Type} (W : Bfs σ) (met : List σ) (x : σ) (c : Nat) : Option Nat := (W.step x c).bind fun y => findI (fun z => W.eqv z y) met
/-- All of them: so many rounds. -/
def Bfs.run {σ : Type} (W : Bfs σ) : Nat → Nat → List σ → List σ
  | 0, _, met => met
  | f + 1, i, met => match met[i]? with
    | some x => W.run f (i + 1) (W.row x met 256)
    | none => met
theorem Bfs.row_pre {σ : Type} (W : Bfs σ) (x : σ) (met : List σ) : ∀ c, ∃ more, W.row x met c = met ++ more
  | 0 => ⟨[], by simp [Bfs.row]⟩
  | c + 1 => by
    obtain ⟨more, h⟩ := W.row_pre x met c
    rw [Bfs.row]
    split
    · exact ⟨more, h⟩
    · split
      · exact ⟨more, h⟩
      · exact ⟨more ++ [W.rep _], by rw [h, List.append_assoc]⟩
/-- Two walks in step. -/
structure Alike {σ τ : Type} (R : σ → τ → Prop) (V : Bfs σ) (W : Bfs τ) : Prop where
  step : ∀ x y, R x y → ∀ c, c < 256 → match V.step x c, W.step y c with
    | some u, some v => R u v
    | none, none => True
    | _, _ => False
  eqv : ∀ x y, R x y → ∀ u v, R u v → V.eqv x u = W.eqv y v
  rep : ∀ x y, R x y → R (V.rep x) (W.rep y)
theorem Alike.row {σ τ : Type} {R : σ → τ → Prop} {V : Bfs σ} {W : Bfs τ} (h : Alike R V W) {x : σ} {y : τ} (hxy : R x y) {l : List σ} {m : List τ} (hl : All2 R l m) : ∀ c, c ≤ 256 → All2 R (V.row x l c) (W.row y m c)
  | 0, _ => hl
  | c + 1, hc => by
    have ih := h.row hxy hl c (by omega)
    have hs := h.step x y hxy c (by omega)
    rw [Bfs.row, Bfs.row]
    cases hx : V.step x c with
    | none =>
      cases hy : W.step y c with
      | none => exact ih
      | some v => rw [hx, hy] at hs; exact hs.elim
    | some u =>
      cases hy : W.step y c with
      | none => rw [hx, hy] at hs; exact hs.elim
      | some v =>
        rw [hx, hy] at hs
        have hs : R u v := hs
        have hf := findI_pair (p := fun z => V.eqv z u) (q := fun z => W.eqv z v) (fun a b hab => h.eqv a b hab u v hs) ih
        simp only [hf]
        split
        · exact ih
        · exact ih.snoc (h.rep u v hs)
theorem Alike.run {σ τ : Type} {R : σ → τ → Prop} {V : Bfs σ} {W : Bfs τ} (h : Alike R V W) : ∀ (f i : Nat) {l : List σ} {m : List τ}, All2 R l m → All2 R (V.run f i l) (W.run f i m)
  | 0, _, _, _, hl => hl
  | f + 1, i, l, m, hl => by
    have hg := hl.get i
    rw [Bfs.run, Bfs.run]
    cases hx : l[i]? with
    | none =>
      cases hy : m[i]? with
      | none => exact hl
      | some v => rw [hx, hy] at hg; exact hg.elim
    | some u =>
      cases hy : m[i]? with
      | none => rw [hx, hy] at hg; exact hg.elim
      | some v =>
        rw [hx, hy] at hg
        exact h.run f (i + 1) (h.row hg hl 256 (Nat.le_refl _))
theorem Alike.num {σ τ : Type} {R : σ → τ → Prop} {V : Bfs σ} {W : Bfs τ} (h : Alike R V W) {x : σ} {y : τ} (hxy : R x y) {l : List σ} {m : List τ} (hl : All2 R l m) {c : Nat} (hc : c < 256) : V.num l x c = W.num m y c := by
  have hs := h.step x y hxy c hc
  unfold Bfs.num
  cases hx : V.step x c with
  | none =>
    cases hy : W.step y c with
    | none => rfl
    | some v => rw [hx, hy] at hs; exact hs.elim
  | some u =>
    cases hy : W.step y c with
    | none => rw [hx, hy] at hs; exact hs.elim
    | some v =>
      rw [hx, hy] at hs
      exact findI_pair (p := fun z => V.eqv z u) (q := fun z => W.eqv z v) (fun a b hab => h.eqv a b hab u v hs) hl
/-- A state of an automaton in memory: final or not, its arcs. -/
abbrev St := Bool × List Arc3
/-- The automaton that a walk makes. -/
def Bfs.out {σ : Type} (W : Bfs σ) (fin : σ → Bool) (met : List σ) : List St := met.map fun x => (fin x, runs (W.num met x) 256)
theorem Alike.out {σ τ : Type} {R : σ → τ → Prop} {V : Bfs σ} {W : Bfs τ} (h : Alike R V W) {f : σ → Bool} {g : τ → Bool} (hfg : ∀ x y, R x y → f x = g y) {l : List σ} {m : List τ} (hl : All2 R l m) : V.out f l = W.out g m := by
  have key : ∀ {a : List σ} {b : List τ}, All2 R a b → a.map (fun x => ((f x, runs (V.num l x) 256) : St)) = b.map fun x => (g x, runs (W.num m x) 256) := by
    intro a b hab
    induction hab with
    | nil => rfl
    | cons hxy _ ih =>
      rw [List.map_cons, List.map_cons, ih, hfg _ _ hxy, runs_congr 256 fun c hc => h.num hxy hl hc]
  exact key hl
open Classical in
/-- The walk that numbers states by what they take. -/
noncomputable def leastW {σ : Type} (M : Au σ) (rep : σ → σ) : Bfs σ := ⟨M.stepL, fun x y => decide (Leq M x M y), rep⟩
open Classical in
theorem least_alike {σ τ : Type} (M : Au σ) (N : Au τ) {r : σ → σ} {q : τ → τ} (hr : ∀ x, Leq M (r x) M x) (hq : ∀ y, Leq N (q y) N y) : Alike (fun x y => Leq M x N y) (leastW M r) (leastW N q) where
  step := fun x y h c hc => h.step hc
  eqv := fun x y h u v h' => by
    show decide _ = decide _
    apply decide_eq_decide.2
    exact ⟨fun k => h.symm.trans (k.trans h'), fun k => h.trans (k.trans h'.symm)⟩
  rep := fun x y h => (hr x).trans (h.trans (hq y).symm)
/-- The least automaton: as it is numbered from a state on, in so many rounds; none of a state that takes nothing. -/
noncomputable def leastOf {σ : Type} (M : Au σ) (r : σ → σ) (f : Nat) (x : σ) : List St := (leastW M r).out M.fin ((leastW M r).run f 0 [x])
theorem leastOf_eq {σ τ : Type} {M : Au σ} {N : Au τ} {r : σ → σ} {q : τ → τ} (hr : ∀ x, Leq M (r x) M x) (hq : ∀ y, Leq N (q y) N y) (f : Nat) {x : σ} {y : τ} (h : Leq M x N y) : leastOf M r f x = leastOf N q f y := by
  have ha := least_alike M N hr hq
  exact ha.out (fun _ _ h => h.fin) (ha.run f 0 (.cons h .nil))
/-! ### The end of a walk -/
theorem Bfs.run_succ {σ : Type} (W : Bfs σ) : ∀ (f i : Nat) (met : List σ), W.run (f + 1) i met = match (W.run f i met)[i + f]? with
    | some x => W.row x (W.run f i met) 256
    | none => W.run f i met
  | 0, i, met => by
    rw [Bfs.run, Nat.add_zero, Bfs.run]
    cases met[i]? with
    | none => rfl
    | some x => rfl
  | f + 1, i, met => by
    rw [Bfs.run]
    cases hx : met[i]? with
    | none =>
      have h1 : W.run (f + 1) i met = met := by rw [Bfs.run, hx]
      rw [h1]
      have h2 : met[i + (f + 1)]? = none := by
        rw [List.getElem?_eq_none_iff] at hx ⊢
        omega
      rw [h2]
    | some x =>
      have h1 : W.run (f + 1) i met = W.run f (i + 1) (W.row x met 256) := by rw [Bfs.run, hx]
      rw [h1]
      have := W.run_succ f (i + 1) (W.row x met 256)
      rw [show i + 1 + f = i + (f + 1) by omega] at this
      exact this
theorem Bfs.run_end {σ : Type} (W : Bfs σ) {f i : Nat} {met : List σ} (h : (W.run f i met)[i + f]? = none) : ∀ k, W.run (f + k) i met = W.run f i met
  | 0 => rfl
  | k + 1 => by
    rw [← Nat.add_assoc, W.run_succ, W.run_end h k]
    have h2 : (W.run f i met)[i + (f + k)]? = none := by
      rw [List.getElem?_eq_none_iff] at h ⊢
      omega
    rw [h2]
/-- What a state leads to is met. -/
def Bfs.Met {σ : Type} (W : Bfs σ) (met : List σ) (x : σ) : Prop := ∀ c, c < 256 → ∀ y, W.step x c = some y → ∃ z ∈ met, W.eqv z y = true
theorem Bfs.row_met {σ : Type} (W : Bfs σ) (he : ∀ x, W.eqv (W.rep x) x = true) (x : σ) (met : List σ) : ∀ n, ∀ c, c < n → ∀ y, W.step x c = some y → ∃ z ∈ W.row x met n, W.eqv z y = true
  | 0, c, hc, _, _ => absurd hc (by omega)
  | n + 1, c, hc, y, hy => by
    rw [Bfs.row]
    by_cases hcn : c < n
    · obtain ⟨z, hz, h⟩ := W.row_met he x met n c hcn y hy
      split
      · exact ⟨z, hz, h⟩
      · split
        · exact ⟨z, hz, h⟩
        · exact ⟨z, List.mem_append_left _ hz, h⟩
    · obtain rfl : c = n := by omega
      rw [hy]
      simp only
      split
      · rename_i i hi
        obtain ⟨z, h1, h2⟩ := findI_some hi
        exact ⟨z, List.mem_of_getElem? h1, h2⟩
      · exact ⟨W.rep y, List.mem_append_right _ (List.mem_singleton.2 rfl), he y⟩
theorem Bfs.Met.more {σ : Type} {W : Bfs σ} {met more : List σ} {x : σ} (h : W.Met met x) : W.Met (met ++ more) x := fun c hc y hy => by
  obtain ⟨z, hz, h1⟩ := h c hc y hy
  exact ⟨z, List.mem_append_left _ hz, h1⟩
/-- Behind so many rounds what the first states lead to is met. -/
theorem Bfs.run_met {σ : Type} (W : Bfs σ) (he : ∀ x, W.eqv (W.rep x) x = true) (x0 : σ) : ∀ (f j : Nat) (x : σ), j < f → (W.run f 0 [x0])[j]? = some x → W.Met (W.run f 0 [x0]) x
  | 0, _, _, h, _ => absurd h (by omega)
  | f + 1, j, x, hj, hx => by
    rw [W.run_succ, Nat.zero_add] at hx ⊢
    cases hf : (W.run f 0 [x0])[f]? with
    | none =>
      rw [hf] at hx
      simp only at hx ⊢
      by_cases hjf : j < f
      · exact W.run_met he x0 f j x hjf hx
      · obtain rfl : j = f := by omega
        rw [hf] at hx
        cases hx
    | some y =>
      rw [hf] at hx
      simp only at hx ⊢
      obtain ⟨more, hm⟩ := W.row_pre y (W.run f 0 [x0]) 256
      have hlen := (List.getElem?_eq_some_iff.1 hf).1
      have hx2 : (W.run f 0 [x0])[j]? = some x := by
        rw [hm, List.getElem?_append_left (by omega)] at hx
        exact hx
      by_cases hjf : j < f
      · rw [hm]
        exact (W.run_met he x0 f j x hjf hx2).more
      · obtain rfl : j = f := by omega
        rw [hf] at hx2
        injection hx2 with hx2
        subst hx2
        exact fun c hc z hz => W.row_met he y _ 256 c hc z hz
/-! ### Arcs in their order -/
/-- Where a byte leads by arcs. -/
def lookA (l : List Arc3) (c : Int) : Option Int := (l.find? fun a => decide (a.1 ≤ c ∧ c ≤ a.2.1)).map (·.2.2)
/-- Arcs that rise, each within the bytes ahead of c. -/
structure Asc (l : List Arc3) (c : Int) : Prop where
  lt : l.Pairwise fun a b => a.2.1 < b.1
  ok : ∀ a ∈ l, 0 ≤ a.1 ∧ a.1 ≤ a.2.1 ∧ a.2.1 < c
theorem Asc.snoc {l : List Arc3} {c : Int} (h : Asc l c) {a : Arc3} (h0 : 0 ≤ a.1) (h1 : ∀ b ∈ l, b.2.1 < a.1) (h2 : a.1 ≤ a.2.1) {c' : Int} (hc : c ≤ c') (h3 : a.2.1 < c') : Asc (l ++ [a]) c' := by
  refine ⟨List.pairwise_append.2 ⟨h.lt, List.pairwise_singleton _ _, fun x hx y hy => ?_⟩, fun x hx => ?_⟩
  · rw [List.mem_singleton.1 hy]
    exact h1 x hx
  · rcases List.mem_append.1 hx with hx | hx
    · have := h.ok x hx
      omega
    · rw [List.mem_singleton.1 hx]
      exact ⟨h0, h2, h3⟩
theorem Asc.pre {l m : List Arc3} {c : Int} (h : Asc (l ++ m) c) : Asc l c := ⟨(List.pairwise_append.1 h.lt).1, fun a ha => h.ok a (List.mem_append_left _ ha)⟩
theorem lookA_none {l : List Arc3} {c : Int} (h : ∀ a ∈ l, a.2.1 < c) : lookA l c = none := by
  unfold lookA
  rw [Option.map_eq_none_iff, List.find?_eq_none]
  intro a ha
  have := h a ha
  simp
  omega
theorem lookA_append (l m : List Arc3) (c : Int) : lookA (l ++ m) c = match lookA l c with
    | some k => some k
    | none => lookA m c := by
  unfold lookA
  rw [List.find?_append]
  cases List.find? (fun a : Arc3 => decide (a.1 ≤ c ∧ c ≤ a.2.1)) l <;> rfl
theorem lookA_one (a : Arc3) (c : Int) : lookA [a] c = if a.1 ≤ c ∧ c ≤ a.2.1 then some a.2.2 else none := by
  unfold lookA
  by_cases h : a.1 ≤ c ∧ c ≤ a.2.1
  · rw [if_pos h, List.find?_cons_of_pos (by simpa using h)]
    rfl
  · rw [if_neg h, List.find?_cons_of_neg (by simpa using h)]
    rfl
theorem growA_asc {l : List Arc3} {c k : Int} (h : Asc l c) (hc : 0 ≤ c) : Asc (growA l c k) (c + 1) ∧ ∀ d : Int, lookA (growA l c k) d = if d = c then some k else lookA l d := by
  have hnew : Asc (l ++ [(c, c, k)]) (c + 1) ∧ ∀ d : Int, lookA (l ++ [(c, c, k)]) d = if d = c then some k else lookA l d := by
    refine ⟨h.snoc hc (fun b hb => (h.ok b hb).2.2) (Int.le_refl _) (by omega) (by show c < c + 1; omega), fun d => ?_⟩
    rw [lookA_append, lookA_one]
    by_cases hd : d = c
    · rw [if_pos hd, hd, lookA_none fun a ha => (h.ok a ha).2.2]
      simp
    · rw [if_neg hd]
      simp only
      rw [if_neg (by omega)]
      cases lookA l d <;> rfl
  unfold growA
  split
  · rename_i a ha
    by_cases hj : a.2.1 + 1 = c ∧ a.2.2 = k
    · rw [if_pos hj]
      obtain ⟨m, rfl⟩ := List.getLast?_eq_some_iff.1 ha
      have hm := h.pre
      have hao := h.ok a (by simp)
      have hlt : ∀ b ∈ m, b.2.1 < a.1 := fun b hb => (List.pairwise_append.1 h.lt).2.2 b hb a (by simp)
      rw [List.dropLast_concat]
      refine ⟨hm.snoc (a := (a.1, c, k)) hao.1 hlt (by show a.1 ≤ c; omega) (Int.le_add_one (Int.le_refl c)) (by show c < c + 1; omega), fun d => ?_⟩
      rw [lookA_append, lookA_append, lookA_one, lookA_one]
      by_cases hd : d = c
      · rw [if_pos hd, hd, lookA_none fun b hb => by have := hm.ok b hb; omega]
        simp only
        rw [if_pos (by omega)]
      · rw [if_neg hd]
        cases lookA m d with
        | some x => rfl
        | none =>
          simp only
          by_cases hin : a.1 ≤ d ∧ d ≤ a.2.1
          · rw [if_pos hin, if_pos (by omega), hj.2]
          · rw [if_neg hin, if_neg (by omega)]
    · rw [if_neg hj]
      exact hnew
  · rename_i hn
    rw [List.getLast?_eq_none_iff.1 hn] at hnew ⊢
    exact hnew
theorem runs_asc (g : Nat → Option Nat) : ∀ n : Nat, Asc (runs g n) n ∧ ∀ d : Nat, lookA (runs g n) d = if d < n then (g d).map (fun k : Nat => (k : Int)) else none
  | 0 => ⟨⟨List.Pairwise.nil, fun a ha => by cases ha⟩, fun d => by simp [runs, lookA]⟩
  | n + 1 => by
    obtain ⟨h1, h2⟩ := runs_asc g n
    rw [runs]
    cases hg : g n with
    | none =>
      refine ⟨⟨h1.lt, fun a ha => by have := h1.ok a ha; omega⟩, fun d => ?_⟩
      rw [h2 d]
      by_cases hd : d < n
      · rw [if_pos hd, if_pos (by omega)]
      · rw [if_neg hd]
        by_cases hdn : d = n
        · rw [if_pos (by omega), hdn, hg]; rfl
        · rw [if_neg (by omega)]
    | some k =>
      obtain ⟨h3, h4⟩ := growA_asc (k := (k : Int)) h1 (by omega)
      refine ⟨by have e : ((n + 1 : Nat) : Int) = (n : Int) + 1 := by omega
                 rw [e]; exact h3, fun d => ?_⟩
      simp only
      rw [h4 d, h2 d]
      by_cases hd : d = n
      · subst hd
        rw [if_pos rfl, if_pos (by omega), hg]
        rfl
      · rw [if_neg (by omega)]
        by_cases hdn : d < n
        · rw [if_pos hdn, if_pos (by omega)]
        · rw [if_neg hdn, if_neg (by omega)]
/-- The automaton of a list of states. -/
def auOf (d : List St) : Au Nat := ⟨fun x => (d[x]?.map (·.1)).getD false, fun x c => (d[x]?).bind fun s => (lookA s.2 c).map Int.toNat⟩
/-- What is made takes what the walk takes. -/
theorem out_leq {σ : Type} (W : Bfs σ) (fin : σ → Bool) {met : List σ} (heq : ∀ z y, W.eqv z y = true → Leq ⟨fin, W.step⟩ z ⟨fin, W.step⟩ y) (hm : ∀ x ∈ met, W.Met met x) : ∀ (s : List Nat) (i : Nat) (x : σ), met[i]? = some x → (auOf (W.out fin met)).acc i s = (⟨fin, W.step⟩ : Au σ).acc x s
  | [], i, x, hx => by
    show ((W.out fin met)[i]?.map (·.1)).getD false = fin x
    unfold Bfs.out
    rw [List.getElem?_map, hx]
    rfl
  | c :: r, i, x, hx => by
    rw [Au.acc, Au.acc]
    by_cases hc : c < 256
    · rw [if_pos hc, if_pos hc]
      have hst : (auOf (W.out fin met)).step i c = W.num met x c := by
        show ((W.out fin met)[i]?).bind (fun s => (lookA s.2 c).map Int.toNat) = _
        unfold Bfs.out
        rw [List.getElem?_map, hx]
        show (lookA (runs (W.num met x) 256) c).map Int.toNat = _
        rw [(runs_asc (W.num met x) 256).2 c, if_pos hc]
        cases W.num met x c <;> simp
      have hnum : W.num met x c = (W.step x c).bind fun y => findI (fun z => W.eqv z y) met := rfl
      have hst2 : (⟨fin, W.step⟩ : Au σ).step x c = W.step x c := rfl
      rw [hst, hst2, hnum]
      cases hy : W.step x c with
      | none => rfl
      | some y =>
        obtain ⟨z, hz, hzy⟩ := hm x (List.mem_of_getElem? hx) c hc y hy
        simp only [Option.bind_some]
        cases hf : findI (fun z => W.eqv z y) met with
        | none =>
          have := findI_none.1 hf z hz
          rw [hzy] at this
          cases this
        | some k =>
          obtain ⟨u, h1, h2⟩ := findI_some hf
          exact (out_leq W fin heq hm r k u h1).trans (heq u y h2 r)
    · rw [if_neg hc, if_neg hc]
end Go.Proofs.YtclahhkcbkpofaaDoor
