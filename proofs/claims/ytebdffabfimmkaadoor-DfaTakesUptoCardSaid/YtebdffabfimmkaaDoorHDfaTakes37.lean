/- The automaton of pairs of states (plain Lean). -/
import Derived.Test.YtebdffabfimmkaaDoorHDfaTakes17
import Derived.Test.YtebdffabfimmkaaDoorHDfaTakes7
import Derived.Test.YtebdffabfimmkaaDoorHDfaTakes36
import Derived.Test.YtebdffabfimmkaaDoorHDfaTakes35
namespace Go.Proofs.YtebdffabfimmkaaDoor
open Go.RowKit

def arcsS (d : List St) (z : Int) : List Arc3 := ((d[z.toNat]?).map (·.2)).getD []
def finD (d : List St) (z : Int) : Bool := ((d[z.toNat]?).map (·.1)).getD false
/-- Where two arcs' ends lead. -/
def pairO : Option Int → Option Int → Option (List Int)
  | some p, some q => some [p, q]
  | _, _ => none
def stepP (a b : List St) : List Int → Nat → Option (List Int)
  | [x, y], c => pairO (lookA (arcsS a x) c) (lookA (arcsS b y) c)
  | _, _ => none
def finP (a b : List St) : List Int → Bool
  | [x, y] => finD a x && finD b y
  | _ => false
def pairW (a b : List St) : Bfs (List Int) := ⟨stepP a b, fun z y => decide (z = y), id⟩
theorem pairW_plain (a b : List St) : Plain (pairW a b) := ⟨fun _ _ => rfl, fun _ => rfl⟩
/-- It takes what both take. -/
theorem pair_acc (a b : List St) : ∀ (s : List Nat) (x y : Int), (⟨finP a b, stepP a b⟩ : Au (List Int)).acc [x, y] s = ((auOf a).acc x.toNat s && (auOf b).acc y.toNat s)
  | [], x, y => rfl
  | c :: r, x, y => by
    have st : ∀ (d : List St) (z : Int), (auOf d).step z.toNat c = (lookA (arcsS d z) c).map Int.toNat := fun d z => by
      show (d[z.toNat]?).bind _ = _
      unfold arcsS
      cases d[z.toNat]? with
      | none => rfl
      | some s => rfl
    rw [Au.acc, Au.acc, Au.acc]
    by_cases hc : c < 256
    · rw [if_pos hc, if_pos hc, if_pos hc, st, st]
      have e : (⟨finP a b, stepP a b⟩ : Au (List Int)).step [x, y] c = pairO (lookA (arcsS a x) c) (lookA (arcsS b y) c) := rfl
      rw [e]
      cases lookA (arcsS a x) c with
      | none => simp [pairO]
      | some p =>
        cases lookA (arcsS b y) c with
        | none => simp [pairO]
        | some q => exact pair_acc a b r p q
    · rw [if_neg hc, if_neg hc, if_neg hc]
      rfl
theorem Asc.look {l : List Arc3} {n : Int} (h : Asc l n) {p : Arc3} {c : Int} (hp : p ∈ l) (h1 : p.1 ≤ c) (h2 : c ≤ p.2.1) : lookA l c = some p.2.2 := by
  induction l with
  | nil => cases hp
  | cons a r ih =>
    rw [lookA_cons]
    obtain ⟨ha, hr⟩ := List.pairwise_cons.1 h.lt
    rcases List.mem_cons.1 hp with rfl | hp
    · rw [if_pos ⟨h1, h2⟩]
    · have := ha p hp
      rw [if_neg (by omega)]
      exact ih ⟨hr, fun a ha => h.ok a (List.mem_cons_of_mem _ ha)⟩ hp
theorem look_some {l : List Arc3} {c t : Int} (h : lookA l c = some t) : ∃ p ∈ l, p.1 ≤ c ∧ c ≤ p.2.1 ∧ p.2.2 = t := by
  unfold lookA at h
  obtain ⟨a, ha, rfl⟩ := Option.map_eq_some_iff.1 h
  have := List.find?_some ha
  simp at this
  exact ⟨a, List.mem_of_find?_eq_some ha, this.1, this.2, rfl⟩
theorem asc_after {l : List Arc3} {n : Int} (h : Asc l n) {i j : Nat} {p q : Arc3} (hi : l[i]? = some p) (hj : l[j]? = some q) (hij : i < j) : p.2.1 < q.1 := by
  obtain ⟨h1, rfl⟩ := List.getElem?_eq_some_iff.1 hi
  obtain ⟨h2, rfl⟩ := List.getElem?_eq_some_iff.1 hj
  exact List.pairwise_iff_getElem.1 h.lt i j h1 h2 hij
/-- Pairs of arcs are gone through: those ahead of the k-th and j-th stand below b, the others from b on. -/
structure PosP (pa qa : List Arc3) (k j b : Nat) : Prop where
  gone : ∀ (k' j' : Nat) p q, pa[k']? = some p → qa[j']? = some q → (k' < k ∨ k' = k ∧ j' < j) → max p.1 q.1 ≤ min p.2.1 q.2.1 → min p.2.1 q.2.1 < (b : Int)
  left : ∀ (k' j' : Nat) p q, pa[k']? = some p → qa[j']? = some q → (k < k' ∨ k = k' ∧ j ≤ j') → (b : Int) ≤ max p.1 q.1
  le : b ≤ 256
section
variable {pa qa : List Arc3} {k j b : Nat}
theorem PosP.start (hp : Asc pa 256) : PosP pa qa 0 0 0 := ⟨fun k' j' p q _ _ h => by omega, fun k' j' p q h1 h2 _ => by
  have := hp.ok p (List.mem_of_getElem? h1)
  omega, by omega⟩
theorem PosP.pass {p q : Arc3} (h : PosP pa qa k j b) (hp : pa[k]? = some p) (hq : qa[j]? = some q) (hn : ¬ max p.1 q.1 ≤ min p.2.1 q.2.1) : PosP pa qa k (j + 1) b := by
  refine ⟨fun k' j' p' q' h1 h2 h3 h4 => ?_, fun k' j' p' q' h1 h2 h3 => h.left k' j' p' q' h1 h2 (by omega), h.le⟩
  by_cases e : k' = k ∧ j' = j
  · obtain ⟨rfl, rfl⟩ := e
    rw [hp] at h1; rw [hq] at h2
    injection h1 with h1; injection h2 with h2
    subst h1 h2
    exact absurd h4 hn
  · exact h.gone k' j' p' q' h1 h2 (by omega) h4
theorem PosP.take {p q : Arc3} {u v : Nat} (hpa : Asc pa 256) (hqa : Asc qa 256) (h : PosP pa qa k j b) (hp : pa[k]? = some p) (hq : qa[j]? = some q) (hu : max p.1 q.1 = (u : Int)) (hv : min p.2.1 q.2.1 = (v : Int)) (hn : u ≤ v) : PosP pa qa k (j + 1) (v + 1) := by
  have o1 := hpa.ok p (List.mem_of_getElem? hp)
  have hb := h.left k j p q hp hq (.inr ⟨rfl, Nat.le_refl _⟩)
  refine ⟨fun k' j' p' q' h1 h2 h3 h4 => ?_, fun k' j' p' q' h1 h2 h3 => ?_, by omega⟩
  · by_cases e : k' = k ∧ j' = j
    · obtain ⟨rfl, rfl⟩ := e
      rw [hp] at h1; rw [hq] at h2
      injection h1 with h1; injection h2 with h2
      subst h1 h2
      omega
    · have := h.gone k' j' p' q' h1 h2 (by omega) h4
      omega
  · by_cases e : k < k'
    · have := asc_after hpa hp h1 e
      omega
    · have := asc_after hqa hq h2 (show j < j' by omega)
      omega
theorem PosP.next (h : PosP pa qa k j b) (hj : qa.length ≤ j) : PosP pa qa (k + 1) 0 b :=
  ⟨fun k' j' p q h1 h2 h3 h4 => h.gone k' j' p q h1 h2 (by have := (List.getElem?_eq_some_iff.1 h2).1; omega) h4, fun k' j' p q h1 h2 h3 => h.left k' j' p q h1 h2 (by omega), h.le⟩
variable {a b' : List St} {x y : Int}
/-- Between the pairs nothing leads. -/
theorem PosP.gap {p q : Arc3} {u v c : Nat} (hpa : Asc pa 256) (hqa : Asc qa 256) (h : PosP pa qa k j b) (hp : pa[k]? = some p) (hq : qa[j]? = some q) (hu : max p.1 q.1 = (u : Int)) (hv : min p.2.1 q.2.1 = (v : Int)) (hn : u ≤ v) (h1 : b ≤ c) (h2 : c < u) : pairO (lookA pa c) (lookA qa c) = none := by
  cases hs : lookA pa c with
  | none => rfl
  | some s =>
    cases ht : lookA qa c with
    | none => rfl
    | some t =>
      obtain ⟨p', a1, a2, a3, _⟩ := look_some hs
      obtain ⟨q', b1, b2, b3, _⟩ := look_some ht
      obtain ⟨k', hk'⟩ := List.mem_iff_getElem?.1 a1
      obtain ⟨j', hj'⟩ := List.mem_iff_getElem?.1 b1
      exfalso
      by_cases e : k' < k ∨ k' = k ∧ j' < j
      · have := h.gone k' j' p' q' hk' hj' e (by omega)
        omega
      · by_cases e' : k' = k ∧ j' = j
        · obtain ⟨rfl, rfl⟩ := e'
          rw [hp] at hk'; rw [hq] at hj'
          injection hk' with h1; injection hj' with h2
          subst h1 h2
          omega
        · have := (h.take hpa hqa hp hq hu hv hn).left k' j' p' q' hk' hj' (by omega)
          omega
theorem PosP.rest {c : Nat} (h : PosP pa qa k 0 b) (hk : pa.length ≤ k) (h1 : b ≤ c) : pairO (lookA pa c) (lookA qa c) = none := by
  cases hs : lookA pa c with
  | none => rfl
  | some s =>
    cases ht : lookA qa c with
    | none => rfl
    | some t =>
      obtain ⟨p', a1, a2, a3, _⟩ := look_some hs
      obtain ⟨q', b1, b2, b3, _⟩ := look_some ht
      obtain ⟨k', hk'⟩ := List.mem_iff_getElem?.1 a1
      obtain ⟨j', hj'⟩ := List.mem_iff_getElem?.1 b1
      have := (List.getElem?_eq_some_iff.1 hk').1
      have := h.gone k' j' p' q' hk' hj' (by omega) (by omega)
      omega
end
section
variable {a e : List St} {fin fin0 : List Int → Bool} {x0 : List Int} {i k j b : Nat} {x y : Int} {met met1 : List (List Int)} {arcs : List Arc3} {fc : Bool} {ds : List St}
/-- Bytes that lead nowhere are passed. -/
theorem MidP.pass_ {b2 : Nat} (h : MidP (pairW a e) fin fin0 x0 i met [x, y] b met1 arcs fc ds) (hb : b ≤ b2) (hn : ∀ c : Nat, b ≤ c → c < b2 → pairO (lookA (arcsS a x) c) (lookA (arcsS e y) c) = none) : MidP (pairW a e) fin fin0 x0 i met [x, y] b2 met1 arcs fc ds := by
  rcases Nat.lt_or_ge b b2 with hl | hl
  · obtain ⟨m, rfl⟩ : ∃ m, b2 = b + (m + 1) := ⟨b2 - b - 1, by omega⟩
    exact h.skip (pairW_plain a e) (fun c h1 h2 => (hn c h1 h2).trans (hn b (Nat.le_refl _) (by omega)).symm) (hn b (Nat.le_refl _) (by omega))
  · obtain rfl : b = b2 := by omega
    exact h
/-- Two arcs that meet lead to their pair. -/
theorem MidP.meet {p q : Arc3} {u v : Nat} (hpa : Asc (arcsS a x) 256) (hqa : Asc (arcsS e y) 256) (hP : PosP (arcsS a x) (arcsS e y) k j b) (hp : (arcsS a x)[k]? = some p) (hq : (arcsS e y)[j]? = some q) (hu : max p.1 q.1 = (u : Int)) (hv : min p.2.1 q.2.1 = (v : Int)) (hn : u ≤ v)
    (h : MidP (pairW a e) fin fin0 x0 i met [x, y] b met1 arcs fc ds) :
    (∀ n, findE [p.2.2, q.2.2] met1 = some n → MidP (pairW a e) fin fin0 x0 i met [x, y] (v + 1) met1 (joinA arcs ((u : Int), (v : Int), (n : Int))) fc ds) ∧
    (findE [p.2.2, q.2.2] met1 = none → MidP (pairW a e) fin fin0 x0 i met [x, y] (v + 1) (met1 ++ [[p.2.2, q.2.2]]) (joinA arcs ((u : Int), (v : Int), (met1.length : Int))) fc (ds ++ [(fin0 [p.2.2, q.2.2], [])])) := by
  have hb := hP.left k j p q hp hq (.inr ⟨rfl, Nat.le_refl _⟩)
  have h1 := h.pass_ (b2 := u) (by omega) fun c c1 c2 => hP.gap hpa hqa hp hq hu hv hn c1 c2
  obtain ⟨m, rfl⟩ : ∃ m, v = u + m := ⟨v - u, by omega⟩
  have hs : ∀ c : Nat, u ≤ c → c < u + (m + 1) → (pairW a e).step [x, y] c = some [p.2.2, q.2.2] := fun c c1 c2 => by
    show pairO (lookA (arcsS a x) c) (lookA (arcsS e y) c) = _
    rw [hpa.look (List.mem_of_getElem? hp) (by omega) (by omega), hqa.look (List.mem_of_getElem? hq) (by omega) (by omega)]
    rfl
  have hu0 := hs u (Nat.le_refl _) (by omega)
  exact ⟨fun n hf => h1.old (pairW_plain a e) (fun c c1 c2 => (hs c c1 c2).trans hu0.symm) hu0 hf, fun hf => h1.new (pairW_plain a e) (fun c c1 c2 => (hs c c1 c2).trans hu0.symm) hu0 hf⟩
end
/-! ### How many pairs there are -/
def IsPair (n m : Nat) (S : List Int) : Prop := ∃ u v : Nat, u < n ∧ v < m ∧ S = [(u : Int), (v : Int)]
theorem arcsS_to {d : List St} (h : Good d) {z c t : Int} (hl : lookA (arcsS d z) c = some t) : 0 ≤ t ∧ t < (d.length : Int) := by
  obtain ⟨p, hp, _, _, rfl⟩ := look_some hl
  unfold arcsS at hp
  cases hs : d[z.toNat]? with
  | none => rw [hs] at hp; cases hp
  | some s =>
    rw [hs] at hp
    exact h.to_ s (List.mem_of_getElem? hs) p hp
theorem step_pair {a e : List St} (ha : Good a) (he : Good e) (x : List Int) (c : Nat) (y : List Int) (h : (pairW a e).step x c = some y) : IsPair a.length e.length y := by
  replace h : stepP a e x c = some y := h
  unfold stepP at h
  split at h
  · rename_i u v
    cases hs : lookA (arcsS a u) c with
    | none => rw [hs] at h; cases h
    | some s =>
      cases ht : lookA (arcsS e v) c with
      | none => rw [hs, ht] at h; cases h
      | some t =>
        rw [hs, ht] at h
        injection h with h
        have h1 := arcsS_to ha hs
        have h2 := arcsS_to he ht
        exact ⟨s.toNat, t.toNat, by omega, by omega, by rw [← h, show ((s.toNat : Nat) : Int) = s by omega, show ((t.toNat : Nat) : Int) = t by omega]⟩
  · cases h
def codeP (m : Nat) : List Int → Nat
  | [x, y] => x.toNat * m + y.toNat
  | _ => 0
theorem pair_few {a e : List St} (ha : Good a) (he : Good e) (f : Nat) : ((pairW a e).run f 0 [[0, 0]]).length ≤ a.length * e.length := by
  have la := List.length_pos_iff.2 ha.ne
  have le := List.length_pos_iff.2 he.ne
  obtain ⟨h1, h2⟩ := run_nodup (pairW_plain a e) (IsPair a.length e.length) (fun x c y h => step_pair ha he x c y h) (x0 := [0, 0]) ⟨0, 0, la, le, rfl⟩ f
  generalize (pairW a e).run f 0 [[0, 0]] = met at *
  have h3 : Apart id (met.map (codeP e.length)) := by
    unfold Apart
    rw [List.pairwise_map]
    have : met.Pairwise fun a b => a ∈ met ∧ b ∈ met ∧ a ≠ b := List.Pairwise.and_mem.1 h1
    refine this.imp fun ⟨hx, hy, hne⟩ e' => hne ?_
    obtain ⟨u, v, u1, v1, rfl⟩ := h2 _ hx
    obtain ⟨s, t, s1, t1, rfl⟩ := h2 _ hy
    have e' : u * e.length + v = s * e.length + t := e'
    have e1 : v = t := by
      have := congrArg (· % e.length) e'
      simp only [Nat.mul_add_mod_self_right] at this
      rwa [Nat.mod_eq_of_lt v1, Nat.mod_eq_of_lt t1] at this
    subst e1
    have e2 : u = s := Nat.eq_of_mul_eq_mul_right le (Nat.add_right_cancel e')
    subst e2
    rfl
  have h4 := apart_few (cnt := a.length * e.length) h3 fun z hz => by
    obtain ⟨S, hS, rfl⟩ := List.mem_map.1 hz
    obtain ⟨u, v, u1, v1, rfl⟩ := h2 _ hS
    show u * e.length + v < a.length * e.length
    have : (u + 1) * e.length ≤ a.length * e.length := Nat.mul_le_mul_right _ u1
    rw [Nat.add_mul, Nat.one_mul] at this
    omega
  rwa [List.length_map] at h4
end Go.Proofs.YtebdffabfimmkaaDoor
/- dfa.Both: what stands in the midst of a round. -/
namespace Go.Proofs.YtebdffabfimmkaaDoor
open Go.RowKit Go.Maps

/-- What stands in the midst of a round of Both. -/
structure BoG (a e : List St) (n n' : Nat) (w W : World) (p kb i u v : Nat) (pa qa : List Arc3) (k j b ns cs ct : Nat) (As At : Option Addr) (N : DataW Unit) (arcs : List Arc3) (na ca : Nat) (Aa : Option Addr) (hs : List Sh) (S : List Rw) (M0 : List (List Int)) : Prop where
  pos : PosP pa qa k j b
  ti : TiG w W p As ns cs At ct kb N ⟨.slice Aa na ca, na, arcsC arcs⟩ hs S [] GRow.nil
  mid : MidP (pairW a e) (finP a e) (finP a e) [0, 0] i M0 [(u : Int), (v : Int)] b (S.map (·.l)) arcs (finP a e [(u : Int), (v : Int)]) (hs.map (·.d))
  prs : ∀ s ∈ S, IsPair n n' s.l
  tail : ∀ k, i + 1 ≤ k → k < ns → ∃ s, S[k]? = some s ∧ hs[k]? = some ⟨(finP a e s.l, []), none, 0⟩
  at_ : hs[i]? = some ⟨(finP a e [(u : Int), (v : Int)], []), none, 0⟩
  len : arcs.length = na
  hi : ∀ x ∈ arcs, 0 ≤ x.2.1 ∧ x.2.1 ≤ 256
  few : ns ≤ 20000 + b
  nab : na ≤ b
  ins : i < ns
section
variable {a e : List St} {n n' : Nat} {w W W' : World} {p kb i u v : Nat} {pa qa : List Arc3} {k j b ns cs ct : Nat} {As At : Option Addr} {N : DataW Unit} {arcs : List Arc3} {na ca : Nat} {Aa : Option Addr} {hs : List Sh} {S : List Rw} {M0 : List (List Int)}
theorem BoG.keep (h : BoG a e n n' w W p kb i u v pa qa k j b ns cs ct As At N arcs na ca Aa hs S M0) (hb : Below W.heap.size W W') : BoG a e n n' w W' p kb i u v pa qa k j b ns cs ct As At N arcs na ca Aa hs S M0 := { h with ti := h.ti.keep hb }
theorem BoG.pass {x y : Arc3} (h : BoG a e n n' w W p kb i u v pa qa k j b ns cs ct As At N arcs na ca Aa hs S M0) (hp : pa[k]? = some x) (hq : qa[j]? = some y) (hn : ¬ max x.1 y.1 ≤ min x.2.1 y.2.1) : BoG a e n n' w W p kb i u v pa qa k (j + 1) b ns cs ct As At N arcs na ca Aa hs S M0 := { h with pos := h.pos.pass hp hq hn }
theorem BoG.next (h : BoG a e n n' w W p kb i u v pa qa k j b ns cs ct As At N arcs na ca Aa hs S M0) (hj : qa.length ≤ j) : BoG a e n n' w W p kb i u v pa qa (k + 1) 0 b ns cs ct As At N arcs na ca Aa hs S M0 := { h with pos := h.pos.next hj }
/-- Behind all arcs. -/
theorem BoG.last (h : BoG a e n n' w W p kb i u v (arcsS a (u : Int)) (arcsS e (v : Int)) k 0 b ns cs ct As At N arcs na ca Aa hs S M0) (hk : (arcsS a (u : Int)).length ≤ k) : MidP (pairW a e) (finP a e) (finP a e) [0, 0] i M0 [(u : Int), (v : Int)] 256 (S.map (·.l)) arcs (finP a e [(u : Int), (v : Int)]) (hs.map (·.d)) :=
  h.mid.pass_ h.pos.le fun _ h1 _ => h.pos.rest hk h1
/-- Two arcs have met, their pair's state is made, the arc is put behind the others. -/
theorem BoG.take {P Q : Arc3} {u2 v2 i11 ns' cs' ct' na' ca' : Nat} {T T' : Int} {As' At' Aa' : Option Addr} {N' : DataW Unit} {hs' : List Sh} {S' : List Rw} {R : Rw} {f : Bool} (hpa : arcsS a (u : Int) = pa) (hqa : arcsS e (v : Int) = qa) (hap : Asc pa 256) (haq : Asc qa 256)
    (h : BoG a e n n' w W p kb i u v pa qa k j b ns cs ct As At N arcs na ca Aa hs S M0) (hp : pa[k]? = some P) (hq : qa[j]? = some Q) (hu : max P.1 Q.1 = (u2 : Int)) (hv : min P.2.1 Q.2.1 = (v2 : Int)) (hn : u2 ≤ v2) (hT : P.2.2 = T) (hT' : Q.2.2 = T') (hf : finP a e [T, T'] = f) (hR : R.l = [T, T']) (hpr : IsPair n n' [T, T'])
    (hti : TiG w W' p As' ns' cs' At' ct' kb N' ⟨.slice Aa' na' ca', na', arcsC (joinA arcs ((u2 : Int), (v2 : Int), (i11 : Int)))⟩ hs' S' [] GRow.nil) (hna : (joinA arcs ((u2 : Int), (v2 : Int), (i11 : Int))).length = na')
    (hc : (findE [T, T'] (S.map (·.l)) = some i11 ∧ ns' = ns ∧ hs' = hs ∧ S' = S) ∨ (findE [T, T'] (S.map (·.l)) = none ∧ i11 = ns ∧ ns' = ns + 1 ∧ hs' = hs ++ [⟨(f, []), none, 0⟩] ∧ S' = S ++ [R])) :
    BoG a e n n' w W' p kb i u v pa qa k (j + 1) (v2 + 1) ns' cs' ct' As' At' N' (joinA arcs ((u2 : Int), (v2 : Int), (i11 : Int))) na' ca' Aa' hs' S' M0 := by
  subst hpa hqa hT hT' hf
  have hb := h.pos.left k j P Q hp hq (.inr ⟨rfl, Nat.le_refl _⟩)
  have hP := h.pos.take hap haq hp hq hu hv hn
  have hM := h.mid.meet hap haq h.pos hp hq hu hv hn
  have hle := hP.le
  have hj := joinA_len arcs ((u2 : Int), (v2 : Int), (i11 : Int))
  have hjh := joinA_hi (P := fun z => 0 ≤ z ∧ z ≤ 256) (a := ((u2 : Int), (v2 : Int), (i11 : Int))) h.hi (by show 0 ≤ (v2 : Int) ∧ (v2 : Int) ≤ 256; omega)
  have hl := h.len
  have hnb := h.nab
  have hfw := h.few
  have hin := h.ins
  have hsl := h.ti.mr.sl
  have hhl := h.ti.mr.hl
  rcases hc with ⟨hq, rfl, rfl, rfl⟩ | ⟨hq, rfl, rfl, rfl, rfl⟩
  · exact ⟨hP, hti, hM.1 _ hq, h.prs, h.tail, h.at_, hna, hjh, by omega, by omega, hin⟩
  · have h2 := hM.2 hq
    rw [List.length_map, hsl] at h2
    refine ⟨hP, hti, by rw [List.map_append, List.map_append]; show MidP _ _ _ _ _ _ _ _ (_ ++ [R.l]) _ _ _; rw [hR]; exact h2, fun s hs => ?_, fun k' h3 h4 => ?_, ?_, hna, hjh, by omega, by omega, by omega⟩
    · rcases List.mem_append.1 hs with hs | hs
      · exact h.prs s hs
      · rw [List.mem_singleton.1 hs, hR]
        exact hpr
    · by_cases hk' : k' < i11
      · obtain ⟨s, h5, h6⟩ := h.tail k' h3 hk'
        exact ⟨s, by rw [List.getElem?_append_left (by omega)]; exact h5, by rw [List.getElem?_append_left (by omega)]; exact h6⟩
      · obtain rfl : k' = i11 := by omega
        refine ⟨R, ?_, ?_⟩
        · rw [List.getElem?_append_right (by omega), hsl, Nat.sub_self]; rfl
        · rw [List.getElem?_append_right (by omega), hhl, Nat.sub_self, hR]; rfl
    · rw [List.getElem?_append_left (by omega)]
      exact h.at_
end
end Go.Proofs.YtebdffabfimmkaaDoor
