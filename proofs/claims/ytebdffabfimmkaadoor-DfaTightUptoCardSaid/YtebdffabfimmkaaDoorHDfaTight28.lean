/- The automaton of pairs of states (plain Lean). -/
import Derived.Test.YtebdffabfimmkaaDoorHDfaTight14
import Derived.Test.YtebdffabfimmkaaDoorHDfaTight7
import Derived.Test.YtebdffabfimmkaaDoorHDfaTight27
import Derived.Test.YtebdffabfimmkaaDoorHDfaTight20
import Derived.Test.YtebdffabfimmkaaDoorHDfaTight17
import Derived.Test.YtebdffabfimmkaaDoorHDfaTight16
namespace Go.Proofs.YtebdffabfimmkaaDoor
open Go.RowKit

def arcsS (d : List St) (z : Int) : List Arc3 := ((d[z.toNat]?).map (·.2)).getD []
def finD (d : List St) (z : Int) : Bool := ((d[z.toNat]?).map (·.1)).getD false
/-- Where two arcs' ends lead. -/
def pairO : Option Int → Option Int → Option (List Int)
  | some p, some q => some [p, q]
  | _, _ => none
def stepP (a b : List St) : List Int → Nat → Option (List Int)
  | [x, y], c => pairO (lookA (arcsS a x) c) (lookA (arcsS b y) c)
  | _, _ => none
def finP (a b : List St) : List Int → Bool
  | [x, y] => finD a x && finD b y
  | _ => false
def pairW (a b : List St) : Bfs (List Int) := ⟨stepP a b, fun z y => decide (z = y), id⟩
theorem pairW_plain (a b : List St) : Plain (pairW a b) := ⟨fun _ _ => rfl, fun _ => rfl⟩
/-- It takes what both take. -/
theorem pair_acc (a b : List St) : ∀ (s : List Nat) (x y : Int), (⟨finP a b, stepP a b⟩ : Au (List Int)).acc [x, y] s = ((auOf a).acc x.toNat s && (auOf b).acc y.toNat s)
  | [], x, y => rfl
  | c :: r, x, y => by
    have st : ∀ (d : List St) (z : Int), (auOf d).step z.toNat c = (lookA (arcsS d z) c).map Int.toNat := fun d z => by
      show (d[z.toNat]?).bind _ = _
      unfold arcsS
      cases d[z.toNat]? with
      | none => rfl
      | some s => rfl
    rw [Au.acc, Au.acc, Au.acc]
    by_cases hc : c < 256
    · rw [if_pos hc, if_pos hc, if_pos hc, st, st]
      have e : (⟨finP a b, stepP a b⟩ : Au (List Int)).step [x, y] c = pairO (lookA (arcsS a x) c) (lookA (arcsS b y) c) := rfl
      rw [e]
      cases lookA (arcsS a x) c with
      | none => simp [pairO]
      | some p =>
        cases lookA (arcsS b y) c with
        | none => simp [pairO]
        | some q => exact pair_acc a b r p q
    · rw [if_neg hc, if_neg hc, if_neg hc]
      rfl
theorem Asc.look {l : List Arc3} {n : Int} (h : Asc l n) {p : Arc3} {c : Int} (hp : p ∈ l) (h1 : p.1 ≤ c) (h2 : c ≤ p.2.1) : lookA l c = some p.2.2 := by
  induction l with
  | nil => cases hp
  | cons a r ih =>
    rw [lookA_cons]
    obtain ⟨ha, hr⟩ := List.pairwise_cons.1 h.lt
    rcases List.mem_cons.1 hp with rfl | hp
    · rw [if_pos ⟨h1, h2⟩]
    · have := ha p hp
      rw [if_neg (by omega)]
      exact ih ⟨hr, fun a ha => h.ok a (List.mem_cons_of_mem _ ha)⟩ hp
theorem look_some {l : List Arc3} {c t : Int} (h : lookA l c = some t) : ∃ p ∈ l, p.1 ≤ c ∧ c ≤ p.2.1 ∧ p.2.2 = t := by
  unfold lookA at h
  obtain ⟨a, ha, rfl⟩ := Option.map_eq_some_iff.1 h
  have := List.find?_some ha
  simp at this
  exact ⟨a, List.mem_of_find?_eq_some ha, this.1, this.2, rfl⟩
theorem asc_after {l : List Arc3} {n : Int} (h : Asc l n) {i j : Nat} {p q : Arc3} (hi : l[i]? = some p) (hj : l[j]? = some q) (hij : i < j) : p.2.1 < q.1 := by
  obtain ⟨h1, rfl⟩ := List.getElem?_eq_some_iff.1 hi
  obtain ⟨h2, rfl⟩ := List.getElem?_eq_some_iff.1 hj
  exact List.pairwise_iff_getElem.1 h.lt i j h1 h2 hij
/-- Pairs of arcs are gone through: those ahead of the k-th and j-th stand below b, the others from b on. -/
structure PosP (pa qa : List Arc3) (k j b : Nat) : Prop where
  gone : ∀ (k' j' : Nat) p q, pa[k']? = some p → qa[j']? = some q → (k' < k ∨ k' = k ∧ j' < j) → max p.1 q.1 ≤ min p.2.1 q.2.1 → min p.2.1 q.2.1 < (b : Int)
  left : ∀ (k' j' : Nat) p q, pa[k']? = some p → qa[j']? = some q → (k < k' ∨ k = k' ∧ j ≤ j') → (b : Int) ≤ max p.1 q.1
  le : b ≤ 256
section
variable {pa qa : List Arc3} {k j b : Nat}
theorem PosP.start (hp : Asc pa 256) : PosP pa qa 0 0 0 := ⟨fun k' j' p q _ _ h => by omega, fun k' j' p q h1 h2 _ => by
  have := hp.ok p (List.mem_of_getElem? h1)
  omega, by omega⟩
theorem PosP.pass {p q : Arc3} (h : PosP pa qa k j b) (hp : pa[k]? = some p) (hq : qa[j]? = some q) (hn : ¬ max p.1 q.1 ≤ min p.2.1 q.2.1) : PosP pa qa k (j + 1) b := by
  refine ⟨fun k' j' p' q' h1 h2 h3 h4 => ?_, fun k' j' p' q' h1 h2 h3 => h.left k' j' p' q' h1 h2 (by omega), h.le⟩
  by_cases e : k' = k ∧ j' = j
  · obtain ⟨rfl, rfl⟩ := e
    rw [hp] at h1; rw [hq] at h2
    injection h1 with h1; injection h2 with h2
    subst h1 h2
    exact absurd h4 hn
  · exact h.gone k' j' p' q' h1 h2 (by omega) h4
theorem PosP.take {p q : Arc3} {u v : Nat} (hpa : Asc pa 256) (hqa : Asc qa 256) (h : PosP pa qa k j b) (hp : pa[k]? = some p) (hq : qa[j]? = some q) (hu : max p.1 q.1 = (u : Int)) (hv : min p.2.1 q.2.1 = (v : Int)) (hn : u ≤ v) : PosP pa qa k (j + 1) (v + 1) := by
  have o1 := hpa.ok p (List.mem_of_getElem? hp)
  have hb := h.left k j p q hp hq (.inr ⟨rfl, Nat.le_refl _⟩)
  refine ⟨fun k' j' p' q' h1 h2 h3 h4 => ?_, fun k' j' p' q' h1 h2 h3 => ?_, by omega⟩
  · by_cases e : k' = k ∧ j' = j
    · obtain ⟨rfl, rfl⟩ := e
      rw [hp] at h1; rw [hq] at h2
      injection h1 with h1; injection h2 with h2
      subst h1 h2
      omega
    · have := h.gone k' j' p' q' h1 h2 (by omega) h4
      omega
  · by_cases e : k < k'
    · have := asc_after hpa hp h1 e
      omega
    · have := asc_after hqa hq h2 (show j < j' by omega)
      omega
theorem PosP.next (h : PosP pa qa k j b) (hj : qa.length ≤ j) : PosP pa qa (k + 1) 0 b :=
  ⟨fun k' j' p q h1 h2 h3 h4 => h.gone k' j' p q h1 h2 (by have := (List.getElem?_eq_some_iff.1 h2).1; omega) h4, fun k' j' p q h1 h2 h3 => h.left k' j' p q h1 h2 (by omega), h.le⟩
variable {a b' : List St} {x y : Int}
/-- Between the pairs nothing leads. -/
theorem PosP.gap {p q : Arc3} {u v c : Nat} (hpa : Asc pa 256) (hqa : Asc qa 256) (h : PosP pa qa k j b) (hp : pa[k]? = some p) (hq : qa[j]? = some q) (hu : max p.1 q.1 = (u : Int)) (hv : min p.2.1 q.2.1 = (v : Int)) (hn : u ≤ v) (h1 : b ≤ c) (h2 : c < u) : pairO (lookA pa c) (lookA qa c) = none := by
  cases hs : lookA pa c with
  | none => rfl
  | some s =>
    cases ht : lookA qa c with
    | none => rfl
    | some t =>
      obtain ⟨p', a1, a2, a3, _⟩ := look_some hs
      obtain ⟨q', b1, b2, b3, _⟩ := look_some ht
      obtain ⟨k', hk'⟩ := List.mem_iff_getElem?.1 a1
      obtain ⟨j', hj'⟩ := List.mem_iff_getElem?.1 b1
      exfalso
      by_cases e : k' < k ∨ k' = k ∧ j' < j
      · have := h.gone k' j' p' q' hk' hj' e (by omega)
        omega
      · by_cases e' : k' = k ∧ j' = j
        · obtain ⟨rfl, rfl⟩ := e'
          rw [hp] at hk'; rw [hq] at hj'
          injection hk' with h1; injection hj' with h2
          subst h1 h2
          omega
        · have := (h.take hpa hqa hp hq hu hv hn).left k' j' p' q' hk' hj' (by omega)
          omega
theorem PosP.rest {c : Nat} (h : PosP pa qa k 0 b) (hk : pa.length ≤ k) (h1 : b ≤ c) : pairO (lookA pa c) (lookA qa c) = none := by
  cases hs : lookA pa c with
  | none => rfl
  | some s =>
    cases ht : lookA qa c with
    | none => rfl
    | some t =>
      obtain ⟨p', a1, a2, a3, _⟩ := look_some hs
      obtain ⟨q', b1, b2, b3, _⟩ := look_some ht
      obtain ⟨k', hk'⟩ := List.mem_iff_getElem?.1 a1
      obtain ⟨j', hj'⟩ := List.mem_iff_getElem?.1 b1
      have := (List.getElem?_eq_some_iff.1 hk').1
      have := h.gone k' j' p' q' hk' hj' (by omega) (by omega)
      omega
end
section
variable {a e : List St} {fin fin0 : List Int → Bool} {x0 : List Int} {i k j b : Nat} {x y : Int} {met met1 : List (List Int)} {arcs : List Arc3} {fc : Bool} {ds : List St}
/-- Bytes that lead nowhere are passed. -/
theorem MidP.pass_ {b2 : Nat} (h : MidP (pairW a e) fin fin0 x0 i met [x, y] b met1 arcs fc ds) (hb : b ≤ b2) (hn : ∀ c : Nat, b ≤ c → c < b2 → pairO (lookA (arcsS a x) c) (lookA (arcsS e y) c) = none) : MidP (pairW a e) fin fin0 x0 i met [x, y] b2 met1 arcs fc ds := by
  rcases Nat.lt_or_ge b b2 with hl | hl
  · obtain ⟨m, rfl⟩ : ∃ m, b2 = b + (m + 1) := ⟨b2 - b - 1, by omega⟩
    exact h.skip (pairW_plain a e) (fun c h1 h2 => (hn c h1 h2).trans (hn b (Nat.le_refl _) (by omega)).symm) (hn b (Nat.le_refl _) (by omega))
  · obtain rfl : b = b2 := by omega
    exact h
/-- Two arcs that meet lead to their pair. -/
theorem MidP.meet {p q : Arc3} {u v : Nat} (hpa : Asc (arcsS a x) 256) (hqa : Asc (arcsS e y) 256) (hP : PosP (arcsS a x) (arcsS e y) k j b) (hp : (arcsS a x)[k]? = some p) (hq : (arcsS e y)[j]? = some q) (hu : max p.1 q.1 = (u : Int)) (hv : min p.2.1 q.2.1 = (v : Int)) (hn : u ≤ v)
    (h : MidP (pairW a e) fin fin0 x0 i met [x, y] b met1 arcs fc ds) :
    (∀ n, findE [p.2.2, q.2.2] met1 = some n → MidP (pairW a e) fin fin0 x0 i met [x, y] (v + 1) met1 (joinA arcs ((u : Int), (v : Int), (n : Int))) fc ds) ∧
    (findE [p.2.2, q.2.2] met1 = none → MidP (pairW a e) fin fin0 x0 i met [x, y] (v + 1) (met1 ++ [[p.2.2, q.2.2]]) (joinA arcs ((u : Int), (v : Int), (met1.length : Int))) fc (ds ++ [(fin0 [p.2.2, q.2.2], [])])) := by
  have hb := hP.left k j p q hp hq (.inr ⟨rfl, Nat.le_refl _⟩)
  have h1 := h.pass_ (b2 := u) (by omega) fun c c1 c2 => hP.gap hpa hqa hp hq hu hv hn c1 c2
  obtain ⟨m, rfl⟩ : ∃ m, v = u + m := ⟨v - u, by omega⟩
  have hs : ∀ c : Nat, u ≤ c → c < u + (m + 1) → (pairW a e).step [x, y] c = some [p.2.2, q.2.2] := fun c c1 c2 => by
    show pairO (lookA (arcsS a x) c) (lookA (arcsS e y) c) = _
    rw [hpa.look (List.mem_of_getElem? hp) (by omega) (by omega), hqa.look (List.mem_of_getElem? hq) (by omega) (by omega)]
    rfl
  have hu0 := hs u (Nat.le_refl _) (by omega)
  exact ⟨fun n hf => h1.old (pairW_plain a e) (fun c c1 c2 => (hs c c1 c2).trans hu0.symm) hu0 hf, fun hf => h1.new (pairW_plain a e) (fun c c1 c2 => (hs c c1 c2).trans hu0.symm) hu0 hf⟩
end
/-! ### How many pairs there are -/
def IsPair (n m : Nat) (S : List Int) : Prop := ∃ u v : Nat, u < n ∧ v < m ∧ S = [(u : Int), (v : Int)]
theorem arcsS_to {d : List St} (h : Good d) {z c t : Int} (hl : lookA (arcsS d z) c = some t) : 0 ≤ t ∧ t < (d.length : Int) := by
  obtain ⟨p, hp, _, _, rfl⟩ := look_some hl
  unfold arcsS at hp
  cases hs : d[z.toNat]? with
  | none => rw [hs] at hp; cases hp
  | some s =>
    rw [hs] at hp
    exact h.to_ s (List.mem_of_getElem? hs) p hp
theorem step_pair {a e : List St} (ha : Good a) (he : Good e) (x : List Int) (c : Nat) (y : List Int) (h : (pairW a e).step x c = some y) : IsPair a.length e.length y := by
  replace h : stepP a e x c = some y := h
  unfold stepP at h
  split at h
  · rename_i u v
    cases hs : lookA (arcsS a u) c with
    | none => rw [hs] at h; cases h
    | some s =>
      cases ht : lookA (arcsS e v) c with
      | none => rw [hs, ht] at h; cases h
      | some t =>
        rw [hs, ht] at h
        injection h with h
        have h1 := arcsS_to ha hs
        have h2 := arcsS_to he ht
        exact ⟨s.toNat, t.toNat, by omega, by omega, by rw [← h, show ((s.toNat : Nat) : Int) = s by omega, show ((t.toNat : Nat) : Int) = t by omega]⟩
  · cases h
def codeP (m : Nat) : List Int → Nat
  | [x, y] => x.toNat * m + y.toNat
  | _ => 0
theorem pair_few {a e : List St} (ha : Good a) (he : Good e) (f : Nat) : ((pairW a e).run f 0 [[0, 0]]).length ≤ a.length * e.length := by
  have la := List.length_pos_iff.2 ha.ne
  have le := List.length_pos_iff.2 he.ne
  obtain ⟨h1, h2⟩ := run_nodup (pairW_plain a e) (IsPair a.length e.length) (fun x c y h => step_pair ha he x c y h) (x0 := [0, 0]) ⟨0, 0, la, le, rfl⟩ f
  generalize (pairW a e).run f 0 [[0, 0]] = met at *
  have h3 : Apart id (met.map (codeP e.length)) := by
    unfold Apart
    rw [List.pairwise_map]
    have : met.Pairwise fun a b => a ∈ met ∧ b ∈ met ∧ a ≠ b := List.Pairwise.and_mem.1 h1
    refine this.imp fun ⟨hx, hy, hne⟩ e' => hne ?_
    obtain ⟨u, v, u1, v1, rfl⟩ := h2 _ hx
    obtain ⟨s, t, s1, t1, rfl⟩ := h2 _ hy
    have e' : u * e.length + v = s * e.length + t := e'
    have e1 : v = t := by
      have := congrArg (· % e.length) e'
      simp only [Nat.mul_add_mod_self_right] at this
      rwa [Nat.mod_eq_of_lt v1, Nat.mod_eq_of_lt t1] at this
    subst e1
    have e2 : u = s := Nat.eq_of_mul_eq_mul_right le (Nat.add_right_cancel e')
    subst e2
    rfl
  have h4 := apart_few (cnt := a.length * e.length) h3 fun z hz => by
    obtain ⟨S, hS, rfl⟩ := List.mem_map.1 hz
    obtain ⟨u, v, u1, v1, rfl⟩ := h2 _ hS
    show u * e.length + v < a.length * e.length
    have : (u + 1) * e.length ≤ a.length * e.length := Nat.mul_le_mul_right _ u1
    rw [Nat.add_mul, Nat.one_mul] at this
    omega
  rwa [List.length_map] at h4
end Go.Proofs.YtebdffabfimmkaaDoor
/- The reference's Both: pairs of states in memory. -/
namespace Go.Proofs.YtebdffabfimmkaaDoor
open Go.RowKit Go.Maps

theorem neq_pair (w : World) (a b : Int × Int) : (binOp .neq 76 (.agg #[.int .i64 a.1, .int .i64 a.2]) (.agg #[.int .i64 b.1, .int .i64 b.2])).run Tryd.prog w = .ok (.bool (!decide (a = b))) w := by
  obtain ⟨a1, a2⟩ := a
  obtain ⟨b1, b2⟩ := b
  rw [run_neq_struct, Op.equalIn]
  have hsz : ∀ w, (sizeOf 3).run Tryd.prog w = .ok 1 w := fun w => by kernel_rfl
  have pt0 : ∀ (x1 x2 : Int) (w : World), (part 3 #[.int .i64 x1, .int .i64 x2] 0).run Tryd.prog w = .ok (.int .i64 x1) w := fun x1 x2 w => by simp [part, isAgg, run_underlying Tryd.underlying3]
  have pt1 : ∀ (x1 x2 : Int) (w : World), (part 3 #[.int .i64 x1, .int .i64 x2] 1).run Tryd.prog w = .ok (.int .i64 x2) w := fun x1 x2 w => by simp [part, isAgg, run_underlying Tryd.underlying3]
  have pe : ∀ (x y : Int) (w : World), (Op.equalIn 9999 3 (.int .i64 x) (.int .i64 y)).run Tryd.prog w = .ok (x == y) w := fun x y w => run_equalIn_int w 9998 3 .i64 .i64 x y Tryd.underlying3
  simp only [Sem.run_bind, run_underlying Tryd.underlying76, Result.andThen_ok, hsz, Std.Legacy.Range.forIn_eq_forIn_range', Std.Legacy.Range.size, Nat.sub_zero, Nat.add_sub_cancel, Nat.div_one]
  rw [show List.range' 0 2 1 = [0, 1] from rfl]
  simp only [List.forIn_cons, List.forIn_nil, Sem.run_bind, Nat.zero_mul, Nat.one_mul, pt0, Result.andThen_ok, pe]
  by_cases h1 : a1 = b1 <;> by_cases h2 : a2 = b2 <;> simp [h1, h2, pt1, pe]
theorem gu_pair : Tryd.prog.eqGuardType Tryd.prog.depth 76 = false := by kernel_rfl
theorem el_pair : Elem Tryd.prog 77 76 2 16 := Elem.mk_ Tryd.underlying77 (z := .agg #[.int .i64 0, .int .i64 0]) (by kernel_rfl) rfl (by omega)
def pairV (p : Nat × Nat) : List Value := [.int .i64 (p.1 : Int), .int .i64 (p.2 : Int)]
def pairsC (l : List (Nat × Nat)) : List Value := l.flatMap pairV
def pairL (p : Nat × Nat) : List Int := [(p.1 : Int), (p.2 : Int)]
theorem pairsC_len (l : List (Nat × Nat)) : (pairsC l).length = l.length * 2 := flat_length pairV 2 (fun _ => rfl) l
theorem pairsC_app (a b : List (Nat × Nat)) : pairsC (a ++ b) = pairsC a ++ pairsC b := List.flatMap_append
theorem pairL_inj {p q : Nat × Nat} (h : pairL p = pairL q) : p = q := by
  obtain ⟨a, b⟩ := p
  obtain ⟨c, d⟩ := q
  unfold pairL at h
  simp at h
  exact Prod.ext (by omega) (by omega)
theorem pairs_cell {W : World} {b n g c j : Nat} {l : List (Nat × Nat)} {p : Nat × Nat} (h : W.ownsRow b 76 2 (.slice (some ⟨g, 0, none⟩) n c) n (pairsC l)) (hp : l[j]? = some p) : W.cell? ⟨g, j * 2, none⟩ = some (.int .i64 (p.1 : Int)) ∧ W.cell? ⟨g, j * 2 + 1, none⟩ = some (.int .i64 (p.2 : Int)) := by
  have k : ∀ q u, (pairV p)[q]? = some u → q < 2 → W.cell? ⟨g, j * 2 + q, none⟩ = some u := fun q u hu hq => by
    have := h.cells (g := g) rfl (j * 2 + q) u (by unfold pairsC; rw [flat_at pairV 2 (fun _ => rfl) l j q p hp hq]; exact hu)
    rwa [Addr.add_lit, Nat.zero_add] at this
  exact ⟨k 0 _ rfl (by omega), k 1 _ rfl (by omega)⟩
theorem stepI_look {d : List St} {x : Nat} (hx : x < d.length) (c : Nat) : stepI d (x : Int) (c : Int) = (lookA (arcsS d (x : Int)) (c : Int)).getD (-1) := by
  unfold stepI arcsS
  rw [if_neg (by omega), Int.toNat_natCast, List.getElem?_eq_getElem hx]
  rfl
/-- Where a byte leads from a pair. -/
theorem pair_cases {a e : List St} (ha : Good a) (he : Good e) {u v : Nat} (hu : u < a.length) (hv : v < e.length) (c : Nat) :
    (∃ s t, stepI a (u : Int) (c : Int) = s ∧ stepI e (v : Int) (c : Int) = t ∧ (s = -1 ∨ (0 ≤ s ∧ t = -1)) ∧ (pairW a e).step (pairL (u, v)) c = none) ∨
    (∃ s t : Nat, stepI a (u : Int) (c : Int) = (s : Int) ∧ stepI e (v : Int) (c : Int) = (t : Int) ∧ s < a.length ∧ t < e.length ∧ (pairW a e).step (pairL (u, v)) c = some (pairL (s, t))) := by
  have hstep : (pairW a e).step (pairL (u, v)) c = pairO (lookA (arcsS a (u : Int)) c) (lookA (arcsS e (v : Int)) c) := rfl
  rw [hstep, stepI_look hu, stepI_look hv]
  cases hs : lookA (arcsS a (u : Int)) (c : Int) with
  | none => exact .inl ⟨-1, _, rfl, rfl, .inl rfl, rfl⟩
  | some s =>
    have h1 := arcsS_to ha hs
    cases ht : lookA (arcsS e (v : Int)) (c : Int) with
    | none => exact .inl ⟨s, -1, rfl, rfl, .inr ⟨h1.1, rfl⟩, rfl⟩
    | some t =>
      have h2 := arcsS_to he ht
      obtain ⟨s', rfl⟩ := Int.eq_ofNat_of_zero_le h1.1
      obtain ⟨t', rfl⟩ := Int.eq_ofNat_of_zero_le h2.1
      exact .inr ⟨s', t', rfl, rfl, by omega, by omega, rfl⟩
end Go.Proofs.YtebdffabfimmkaaDoor
