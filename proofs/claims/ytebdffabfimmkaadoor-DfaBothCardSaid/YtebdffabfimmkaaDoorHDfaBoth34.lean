/- The reference's apart: what its loops keep (plain Lean). -/
import Derived.Test.YtebdffabfimmkaaDoorHDfaBoth33
import Derived.Test.YtebdffabfimmkaaDoorHDfaBoth29
import Derived.Test.YtebdffabfimmkaaDoorHDfaBoth24
import Derived.Test.YtebdffabfimmkaaDoorHDfaBoth30
namespace Go.Proofs.YtebdffabfimmkaaDoor

/-- How many are not apart yet. -/
def offF (F : List (List Bool)) : Nat := (F.map fun r => (r.filter (!·)).length).sum
theorem offr_set {L : List Bool} {i : Nat} (h : L[i]? = some false) : ((L.set i true).filter (!·)).length + 1 = (L.filter (!·)).length := by
  induction L generalizing i with
  | nil => simp at h
  | cons b r ih =>
    cases i with
    | zero =>
      simp at h
      subst h
      simp
    | succ i =>
      simp at h
      have := ih h
      simp only [List.set_cons_succ]
      cases b <;> simp <;> omega
theorem offF_set {F : List (List Bool)} {i k : Nat} {r : List Bool} (hr : F[i]? = some r) (hk : r[k]? = some false) : offF (F.set i (r.set k true)) + 1 = offF F := by
  unfold offF
  induction F generalizing i with
  | nil => simp at hr
  | cons x t ih =>
    cases i with
    | zero =>
      simp at hr
      subst hr
      have := offr_set hk
      simp only [List.set_cons_zero, List.map_cons, List.sum_cons]
      omega
    | succ i =>
      simp at hr
      have := ih hr
      simp only [List.set_cons_succ, List.map_cons, List.sum_cons]
      omega
def ap0 (d : List St) : List (List Bool) := d.map fun s => d.map fun t => s.1 != t.1
theorem ap0_cell {d : List St} {i k : Nat} : cellF (ap0 d) i k = (d[i]?).bind fun s => (d[k]?).map fun t => s.1 != t.1 := by
  unfold cellF ap0
  rw [List.getElem?_map]
  cases d[i]? with
  | none => rfl
  | some s =>
    simp only [Option.map_some, Option.bind_some]
    rw [List.getElem?_map]
theorem ap0_start (d : List St) : ApP d (ap0 d) := by
  refine ⟨List.length_map .., fun r hr => ?_, fun i k h => ⟨[], ?_⟩, fun i k hi hk h => ?_⟩
  · obtain ⟨s, _, rfl⟩ := List.mem_map.1 hr
    exact List.length_map ..
  · rw [ap0_cell] at h
    obtain ⟨s, hs, h⟩ := Option.bind_eq_some_iff.1 h
    obtain ⟨t, ht, h⟩ := Option.map_eq_some_iff.1 h
    show ((d[i]?).map (·.1)).getD false ≠ ((d[k]?).map (·.1)).getD false
    rw [hs, ht]
    simpa using h
  · rw [ap0_cell, List.getElem?_eq_getElem hi, List.getElem?_eq_getElem hk]
    replace h : ((d[i]?).map (·.1)).getD false ≠ ((d[k]?).map (·.1)).getD false := h
    rw [List.getElem?_eq_getElem hi, List.getElem?_eq_getElem hk] at h
    simpa using h
theorem ApP.set {d : List St} (hg : Good d) {L : List Bool} (hL : Gone d L) {F : List (List Bool)} (h : ApP d F) {i k : Nat} (hi : i < d.length) (hk : k < d.length) {r : List Bool} (hr : F[i]? = some r) (hu : unlB d L F i k = true) : ApP d (F.set i (r.set k true)) := by
  have hrl := h.row r (List.mem_of_getElem? hr)
  refine ⟨by rw [List.length_set]; exact h.len, fun q hq => ?_, fun x y hxy => ?_, fun x y hx hy hf => ?_⟩
  · rcases List.mem_or_eq_of_mem_set hq with hq | rfl
    · exact h.row q hq
    · rw [List.length_set]; exact hrl
  · rw [cell_set hr (by omega)] at hxy
    split at hxy
    · rename_i e
      obtain ⟨rfl, rfl⟩ := e
      exact unl_sound hg hL h hi hk hu
    · exact h.sound x y hxy
  · rw [cell_set hr (by omega)]
    split
    · rfl
    · exact h.base x y hx hy hf
/-- Nothing is unlike as far as one has come. -/
def ApTo (d : List St) (L : List Bool) (F : List (List Bool)) (i k : Nat) : Prop := ∀ i' k' : Nat, i' < d.length → k' < d.length → (i' < i ∨ i' = i ∧ k' < k) → cellF F i' k' = some false → unlB d L F i' k' = false
theorem ApTo.zero (d : List St) (L : List Bool) (F : List (List Bool)) : ApTo d L F 0 0 := fun i' k' _ _ h => by omega
theorem ApTo.one {d : List St} {L : List Bool} {F : List (List Bool)} {i k : Nat} (h : ApTo d L F i k) (hu : cellF F i k = some false → unlB d L F i k = false) : ApTo d L F i (k + 1) := fun i' k' h1 h2 h3 h4 => by
  by_cases e : i' = i ∧ k' = k
  · obtain ⟨rfl, rfl⟩ := e
    exact hu h4
  · exact h i' k' h1 h2 (by omega) h4
theorem ApTo.next {d : List St} {L : List Bool} {F : List (List Bool)} {i k : Nat} (h : ApTo d L F i k) (hk : d.length ≤ k) : ApTo d L F (i + 1) 0 := fun i' k' h1 h2 h3 h4 => h i' k' h1 h2 (by omega) h4
/-- Which states take the same is told. -/
def Far (d : List St) (F : List (List Bool)) : Prop := ∀ i k, i < d.length → k < d.length → (cellF F i k = some true ↔ ¬ Leq (auOf d) i (auOf d) k)
theorem ApP.far {d : List St} (hg : Good d) {L : List Bool} (hL : Gone d L) {F : List (List Bool)} (h : ApP d F) (hc : ApTo d L F d.length 0) : Far d F := fun i k hi hk => by
  constructor
  · intro h1 h2
    obtain ⟨t, ht⟩ := h.sound i k h1
    exact ht (h2 t)
  · intro h1
    obtain ⟨b, hb⟩ := cell_some h hi hk
    cases b with
    | true => exact hb
    | false => exact absurd (fun t => h.done hg hL (fun i k h1 h2 h3 => hc i k h1 h2 (.inl h1) h3) t i k hi hk hb) h1
/-- In the midst of the first marks. -/
structure IniP (d : List St) (F : List (List Bool)) (i k : Nat) : Prop where
  len : F.length = d.length
  done : ∀ (x : Nat) s, x < i → d[x]? = some s → F[x]? = some (d.map fun t => s.1 != t.1)
  cur : ∀ s, d[i]? = some s → 0 < k → ∃ r, F[i]? = some r ∧ r.length = d.length ∧ ∀ (y : Nat) t, y < k → d[y]? = some t → r[y]? = some (s.1 != t.1)
theorem IniP.start {d : List St} {F : List (List Bool)} (h : F.length = d.length) : IniP d F 0 0 := ⟨h, fun x s h => absurd h (by omega), fun s _ h => absurd h (by omega)⟩
theorem IniP.make {d : List St} {F : List (List Bool)} {i : Nat} (h : IniP d F i 0) (r : List Bool) : IniP d (F.set i r) i 0 :=
  ⟨by rw [List.length_set]; exact h.len, fun x s hx hs => by rw [List.getElem?_set_ne (by omega)]; exact h.done x s hx hs, fun s _ h => absurd h (by omega)⟩
theorem IniP.one {d : List St} {F : List (List Bool)} {i k : Nat} {s t : St} {r : List Bool} (h : IniP d F i k) (hs : d[i]? = some s) (ht : d[k]? = some t) (hr : F[i]? = some r) (hl : r.length = d.length) : IniP d (F.set i (r.set k (s.1 != t.1))) i (k + 1) := by
  have hi := (List.getElem?_eq_some_iff.1 hr).1
  have hk := (List.getElem?_eq_some_iff.1 ht).1
  refine ⟨by rw [List.length_set]; exact h.len, fun x s' hx hs' => by rw [List.getElem?_set_ne (by omega)]; exact h.done x s' hx hs', fun s' hs' _ => ?_⟩
  rw [hs] at hs'
  injection hs' with hs'
  subst hs'
  refine ⟨r.set k (s.1 != t.1), by rw [List.getElem?_set_self hi], by rw [List.length_set]; exact hl, fun y u hy hu => ?_⟩
  by_cases e : k = y
  · subst e
    rw [ht] at hu
    injection hu with hu
    subst hu
    rw [List.getElem?_set_self (by omega)]
  · rw [List.getElem?_set_ne e]
    obtain ⟨r', h1, h2, h3⟩ := h.cur s hs (by omega)
    rw [hr] at h1
    injection h1 with h1
    subst h1
    exact h3 y u (by omega) hu
theorem IniP.next {d : List St} {F : List (List Bool)} {i k : Nat} (h : IniP d F i k) (hk : d.length ≤ k) (hi : i < d.length) : IniP d F (i + 1) 0 := by
  refine ⟨h.len, fun x s hx hs => ?_, fun s _ h => absurd h (by omega)⟩
  by_cases e : x < i
  · exact h.done x s e hs
  · obtain rfl : x = i := by omega
    obtain ⟨r, h1, h2, h3⟩ := h.cur s hs (by omega)
    rw [h1]
    congr 1
    apply List.ext_getElem?
    intro y
    by_cases hy : y < d.length
    · rw [h3 y d[y] (by omega) (List.getElem?_eq_getElem hy), List.getElem?_map, List.getElem?_eq_getElem hy]
      rfl
    · rw [List.getElem?_eq_none (by omega), List.getElem?_eq_none (by rw [List.length_map]; omega)]
theorem IniP.last {d : List St} {F : List (List Bool)} (h : IniP d F d.length 0) : F = ap0 d := by
  unfold ap0
  apply List.ext_getElem?
  intro y
  by_cases hy : y < d.length
  · rw [h.done y d[y] hy (List.getElem?_eq_getElem hy), List.getElem?_map, List.getElem?_eq_getElem hy]
    rfl
  · rw [List.getElem?_eq_none (by rw [h.len]; omega), List.getElem?_eq_none (by rw [List.length_map]; omega)]
end Go.Proofs.YtebdffabfimmkaaDoor
/- The reference's Least: which of the states that are met takes the same. -/
namespace Go.Proofs.YtebdffabfimmkaaDoor
open Go.RowKit Go.Maps

/-- A place, or behind all. -/
def KAt {σ : Type} (p : σ → Bool) (met : List σ) (k : Nat) : Prop := (findI p met = some k ∧ k < met.length) ∨ (findI p met = none ∧ k = met.length)
theorem findI_at {σ : Type} {p : σ → Bool} : ∀ {met : List σ} {k : Nat} {z : σ}, (∀ (j : Nat) x, j < k → met[j]? = some x → p x = false) → met[k]? = some z → p z = true → findI p met = some k
  | [], k, z, _, hz, _ => by simp at hz
  | x :: r, 0, z, _, hz, hp => by
    simp at hz
    subst hz
    rw [findI, if_pos hp]
  | x :: r, k + 1, z, h, hz, hp => by
    rw [findI, if_neg (by rw [h 0 x (by omega) rfl]; exact Bool.false_ne_true), findI_at (k := k) (fun j y hj hy => h (j + 1) y (by omega) (by simpa using hy)) (by simpa using hz) hp]
    rfl
theorem findI_end {σ : Type} {p : σ → Bool} {met : List σ} {k : Nat} (h : ∀ (j : Nat) x, j < k → met[j]? = some x → p x = false) (hk : met.length ≤ k) : findI p met = none :=
  findI_none.2 fun x hx => by
    obtain ⟨j, hj⟩ := List.mem_iff_getElem?.1 hx
    exact h j x (Nat.lt_of_lt_of_le (List.getElem?_eq_some_iff.1 hj).1 hk) hj
abbrev natC (l : List Nat) : List Value := l.map fun z : Nat => Value.int .i64 (z : Int)
/-- The states that are met: no two the same, all of them there. -/
def MetP (n : Nat) (met : List Nat) : Prop := met.Nodup ∧ ∀ x ∈ met, x < n
theorem MetP.few {n : Nat} {met : List Nat} (h : MetP n met) : met.length ≤ n := apart_few (cls := id) h.1 h.2
open Classical in
theorem far_eqv {d : List St} {F : List (List Bool)} (h : Far d F) {x y : Nat} {b : Bool} (hx : x < d.length) (hy : y < d.length) (hb : cellF F x y = some b) : (leastW (auOf d) id).eqv x y = !b := by
  have h1 := h x y hx hy
  rw [hb] at h1
  show decide (Leq (auOf d) x (auOf d) y) = !b
  cases b with
  | true => exact decide_eq_false (h1.1 rfl)
  | false => exact decide_eq_true (Classical.byContradiction fun h2 => by cases h1.2 h2)
set_option linter.unusedVariables false in
set_option maxRecDepth 100000 in
set_option maxHeartbeats 8000000 in
theorem least_k (W0 : World) (n cf : Nat) (Af : Option Addr) (R : List Br) (HM : Hid (Mat W0 W0.heap.size Af n R)) (d : List St) (HLL : Hid (d.length = n)) (hcm : n ≤ 20000) (HF : Hid (Far d (R.map (·.l)))) (Am : Option Addr) (m cm : Nat) (met : List Nat) (HMet : Hid (Sl W0 W0.heap.size 1 Am m (natC met))) (HMP : Hid (MetP n met)) (y : Nat) (hy : y < n)
    (c0 c1 c2 c3 c6 c7 c8 c9 c12 c13 c14 c15 c16 c17 c18 c19 c20 c21 c22 c23 c24 c25 c26 c27 c28 c29 c30 c31 c32 c33 c34 c35 c36 c37 c38 c39 c40 c41 c42 c43 c44 c45 c46 c47 c48 c49 c50 c51 c70 c71 c72 c73 c74 c75 c76 c77 c78 c79 c80 c81 c82 c83 c84 c85 c86 c87 c88 u52 u53 u54 u55 u56 u57 u58 u59 u60 u61 u62 u63 u64 u65 u66 u67 u68 u69 : Value) (Q0 : Exit → Act → World → Prop) (hQ0 : ∀ c (a a' : Act) w, a.defers = a'.defers → Q0 (.panic c) a w → Q0 (.panic c) a' w)
    (hexit : ∀ (k : Nat) (u52 u53 u54 u55 u56 u57 u58 u59 u60 u61 u62 u63 u64 u65 u66 u67 u68 u69 : Value), k ≤ m → Hid (KAt (fun z => (leastW (auOf d) id).eqv z y) met k) → Q0 (.exit 4) ⟨List.toArray (c0 :: c1 :: c2 :: c3 :: .slice Af n cf :: .slice Am m cm :: c6 :: c7 :: c8 :: c9 :: .int .i64 (y : Int) :: .int .i64 (k : Int) :: c12 :: c13 :: c14 :: c15 :: c16 :: c17 :: c18 :: c19 :: c20 :: c21 :: c22 :: c23 :: c24 :: c25 :: c26 :: c27 :: c28 :: c29 :: c30 :: c31 :: c32 :: c33 :: c34 :: c35 :: c36 :: c37 :: c38 :: c39 :: c40 :: c41 :: c42 :: c43 :: c44 :: c45 :: c46 :: c47 :: c48 :: c49 :: c50 :: c51 :: u52 :: u53 :: u54 :: u55 :: u56 :: u57 :: u58 :: u59 :: u60 :: u61 :: u62 :: u63 :: u64 :: u65 :: u66 :: u67 :: u68 :: u69 :: c70 :: c71 :: c72 :: c73 :: c74 :: c75 :: c76 :: c77 :: c78 :: c79 :: c80 :: c81 :: c82 :: c83 :: c84 :: c85 :: c86 :: c87 :: c88 :: []), []⟩ W0) :
    Code.wp Tryd.prog (.loop (loopOf Tryd.f24 2)) Q0 ⟨List.toArray (c0 :: c1 :: c2 :: c3 :: .slice Af n cf :: .slice Am m cm :: c6 :: c7 :: c8 :: c9 :: .int .i64 (y : Int) :: .int .i64 (0 : Int) :: c12 :: c13 :: c14 :: c15 :: c16 :: c17 :: c18 :: c19 :: c20 :: c21 :: c22 :: c23 :: c24 :: c25 :: c26 :: c27 :: c28 :: c29 :: c30 :: c31 :: c32 :: c33 :: c34 :: c35 :: c36 :: c37 :: c38 :: c39 :: c40 :: c41 :: c42 :: c43 :: c44 :: c45 :: c46 :: c47 :: c48 :: c49 :: c50 :: c51 :: u52 :: u53 :: u54 :: u55 :: u56 :: u57 :: u58 :: u59 :: u60 :: u61 :: u62 :: u63 :: u64 :: u65 :: u66 :: u67 :: u68 :: u69 :: c70 :: c71 :: c72 :: c73 :: c74 :: c75 :: c76 :: c77 :: c78 :: c79 :: c80 :: c81 :: c82 :: c83 :: c84 :: c85 :: c86 :: c87 :: c88 :: []), []⟩ W0 := by
  have hml : met.length = m := by have := HMet.out.1; unfold natC at this; rw [List.length_map] at this; omega
  have hmn : m ≤ n := by rw [← hml]; exact HMP.out.few
  have HML := Lib.hid hml
  clear hml
  conv => arg 2; arg 1; whnf
  go_loop [11] (fun kv => ∃ k : Nat, k ≤ m ∧ kv = .int .i64 k ∧ Hid (∀ (j : Nat) x, j < k → met[j]? = some x → (leastW (auOf d) id).eqv x y = false)) (fun kv => m - (intOf kv).toNat)
  case atStart => exact ⟨0, Nat.zero_le _, rfl, fun j x h => absurd h (by omega)⟩
  case round =>
    obtain ⟨k, hk, rfl, HP⟩ := hrel
    by_cases hkm : k < m
    · have hkm2 : (k : Int) < (m : Int) := by omega
      have q0 : decide ((k : Int) < (m : Int)) = true := decide_eq_true hkm2
      have q01 : decide (k < m) = true := decide_eq_true hkm
      obtain ⟨x, hx⟩ : ∃ x, met[k]? = some x := ⟨met[k]'(by rw [HML.out]; exact hkm), List.getElem?_eq_getElem _⟩
      have hxn := HMP.out.2 x (List.mem_of_getElem? hx)
      obtain ⟨mb, mo, rfl, hmb, hmc⟩ := HMet.out.at_ hkm
      have m0 := hmc k (.int .i64 (x : Int)) (by unfold natC; rw [List.getElem?_map, hx]; rfl)
      obtain ⟨b, hb⟩ := HM.out.cell hxn hy
      obtain ⟨ob, oo, xc, rb, ro, rfl, hob, f0, hrb, f1⟩ := HM.out.get hb
      have HE := Lib.hid (far_eqv HF.out (by rw [HLL.out]; exact hxn) (by rw [HLL.out]; exact hy) hb)
      have HX := Lib.hid hx
      have hxn2 : (x : Int) < (n : Int) := by omega
      have hyn2 : (y : Int) < (n : Int) := by omega
      clear hmc hb hx
      cases b
      · have HK : Hid (KAt (fun z => (leastW (auOf d) id).eqv z y) met k) := .inl ⟨findI_at HP.out HX.out HE.out, by rw [HML.out]; exact hkm⟩
        clear HP HE HX
        go_wp2_with fail
        exact hexit k _ _ _ _ _ _ _ _ _ _ _ _ _ _ _ _ _ _ hk HK
      · have HPN : Hid (∀ (j : Nat) x, j < k + 1 → met[j]? = some x → (leastW (auOf d) id).eqv x y = false) := fun j z hj hz => by
          by_cases e : j < k
          · exact HP.out j z e hz
          · obtain rfl : j = k := by omega
            rw [HX.out] at hz
            injection hz with hz
            rw [← hz]
            exact HE.out
        clear HP HE HX
        go_wp2_with fail
        go_round
        case rel => exact ⟨k + 1, by omega, by go_num, HPN⟩
        case measure => simp [intOf]; omega
    · obtain rfl : k = m := by omega
      have q0 : decide ((k : Int) < (k : Int)) = false := decide_eq_false (by omega)
      have q01 : decide (k < k) = false := decide_eq_false (by omega)
      have HK : Hid (KAt (fun z => (leastW (auOf d) id).eqv z y) met k) := .inr ⟨findI_end HP.out (by rw [HML.out]; exact Nat.le_refl _), HML.out.symm⟩
      clear HP
      go_wp2_with fail
      exact hexit k _ _ _ _ _ _ _ _ _ _ _ _ _ _ _ _ _ _ hk HK
end Go.Proofs.YtebdffabfimmkaaDoor
/- The reference's Both: which pair is met. -/
namespace Go.Proofs.YtebdffabfimmkaaDoor
open Go.RowKit Go.Maps

theorem neq_pairs (w : World) (p q : Nat × Nat) : (binOp .neq 76 (.agg #[.int .i64 (p.1 : Int), .int .i64 (p.2 : Int)]) (.agg #[.int .i64 (q.1 : Int), .int .i64 (q.2 : Int)])).run Tryd.prog w = .ok (.bool (!decide (p = q))) w := by
  rw [neq_pair w ((p.1 : Int), (p.2 : Int)) ((q.1 : Int), (q.2 : Int))]
  congr 3
  apply decide_eq_decide.2
  constructor
  · intro h
    injection h with h1 h2
    exact Prod.ext (by omega) (by omega)
  · rintro rfl
    rfl
theorem pair_eqv (a e : List St) (p q : Nat × Nat) : (pairW a e).eqv (pairL p) (pairL q) = decide (p = q) := by
  show decide (pairL p = pairL q) = _
  apply decide_eq_decide.2
  exact ⟨pairL_inj, fun h => by rw [h]⟩
set_option linter.unusedVariables false in
set_option maxRecDepth 100000 in
set_option maxHeartbeats 8000000 in
theorem both_k (W0 : World) (a e : List St) (b0 : Nat) (Ap : Option Addr) (m cp : Nat) (ps : List (Nat × Nat)) (HPS : Hid (W0.ownsRow b0 76 2 (.slice Ap m cp) m (pairsC ps))) (hm : m ≤ 1099511627776) (qb : Nat) (y : Nat × Nat) (HQ : Hid (W0.heap[qb]? = some (.cells #[.int .i64 (y.1 : Int), .int .i64 (y.2 : Int)] 76 (0, 0))))
    (c0 c1 c2 c3 c4 c5 c6 c7 c9 c10 c11 c12 c13 c16 c17 c18 c19 c20 c21 c22 c23 c24 c25 c26 c27 c28 c29 c30 c31 c32 c33 c34 c35 c36 c37 c38 c39 c40 c41 c42 c43 c44 c45 c46 c47 c48 c49 c50 c51 c52 c53 c54 c55 c56 c57 c58 c59 c60 c61 c62 c63 c64 c65 c66 c67 c68 c69 c70 c71 c72 c73 c74 c75 c76 c77 c92 c93 c94 c95 c96 c97 c98 c99 c100 c101 c102 c103 c104 c105 c106 c107 c108 c109 c110 c111 u78 u79 u80 u81 u82 u83 u84 u85 u86 u87 u88 u89 u90 u91 : Value) (Q0 : Exit → Act → World → Prop) (hQ0 : ∀ c (a a' : Act) w, a.defers = a'.defers → Q0 (.panic c) a w → Q0 (.panic c) a' w)
    (hexit : ∀ (k : Nat) (W : World) (u78 u79 u80 u81 u82 u83 u84 u85 u86 u87 u88 u89 u90 u91 : Value), k ≤ m → Hid (Below W0.heap.size W0 W) → Hid (KAt (fun z => (pairW a e).eqv z (pairL y)) (ps.map pairL) k) → Q0 (.exit 4) ⟨List.toArray (c0 :: c1 :: c2 :: c3 :: c4 :: c5 :: c6 :: c7 :: .slice Ap m cp :: c9 :: c10 :: c11 :: c12 :: c13 :: .pointer (some ⟨qb, 0, none⟩) :: .int .i64 (k : Int) :: c16 :: c17 :: c18 :: c19 :: c20 :: c21 :: c22 :: c23 :: c24 :: c25 :: c26 :: c27 :: c28 :: c29 :: c30 :: c31 :: c32 :: c33 :: c34 :: c35 :: c36 :: c37 :: c38 :: c39 :: c40 :: c41 :: c42 :: c43 :: c44 :: c45 :: c46 :: c47 :: c48 :: c49 :: c50 :: c51 :: c52 :: c53 :: c54 :: c55 :: c56 :: c57 :: c58 :: c59 :: c60 :: c61 :: c62 :: c63 :: c64 :: c65 :: c66 :: c67 :: c68 :: c69 :: c70 :: c71 :: c72 :: c73 :: c74 :: c75 :: c76 :: c77 :: u78 :: u79 :: u80 :: u81 :: u82 :: u83 :: u84 :: u85 :: u86 :: u87 :: u88 :: u89 :: u90 :: u91 :: c92 :: c93 :: c94 :: c95 :: c96 :: c97 :: c98 :: c99 :: c100 :: c101 :: c102 :: c103 :: c104 :: c105 :: c106 :: c107 :: c108 :: c109 :: c110 :: c111 :: []), []⟩ W) :
    Code.wp Tryd.prog (.loop (loopOf Tryd.f22 2)) Q0 ⟨List.toArray (c0 :: c1 :: c2 :: c3 :: c4 :: c5 :: c6 :: c7 :: .slice Ap m cp :: c9 :: c10 :: c11 :: c12 :: c13 :: .pointer (some ⟨qb, 0, none⟩) :: .int .i64 (0 : Int) :: c16 :: c17 :: c18 :: c19 :: c20 :: c21 :: c22 :: c23 :: c24 :: c25 :: c26 :: c27 :: c28 :: c29 :: c30 :: c31 :: c32 :: c33 :: c34 :: c35 :: c36 :: c37 :: c38 :: c39 :: c40 :: c41 :: c42 :: c43 :: c44 :: c45 :: c46 :: c47 :: c48 :: c49 :: c50 :: c51 :: c52 :: c53 :: c54 :: c55 :: c56 :: c57 :: c58 :: c59 :: c60 :: c61 :: c62 :: c63 :: c64 :: c65 :: c66 :: c67 :: c68 :: c69 :: c70 :: c71 :: c72 :: c73 :: c74 :: c75 :: c76 :: c77 :: u78 :: u79 :: u80 :: u81 :: u82 :: u83 :: u84 :: u85 :: u86 :: u87 :: u88 :: u89 :: u90 :: u91 :: c92 :: c93 :: c94 :: c95 :: c96 :: c97 :: c98 :: c99 :: c100 :: c101 :: c102 :: c103 :: c104 :: c105 :: c106 :: c107 :: c108 :: c109 :: c110 :: c111 :: []), []⟩ W0 := by
  have hml : ps.length = m := by have := HPS.out.1; rw [pairsC_len] at this; omega
  have HML := Lib.hid hml
  have HQ0 := HQ.out
  have HB0 := Lib.hid (brefl W0)
  clear hml HQ0
  conv => arg 2; arg 1; whnf
  go_loopw [15] (fun kv wr => ∃ k : Nat, k ≤ m ∧ kv = .int .i64 k ∧ Hid (Below W0.heap.size W0 wr) ∧ Hid (∀ (j : Nat) x, j < k → (ps.map pairL)[j]? = some x → (pairW a e).eqv x (pairL y) = false)) (fun kv _ => m - (intOf kv).toNat)
  case atStart => exact ⟨0, Nat.zero_le _, rfl, HB0, fun j x h => absurd h (by omega)⟩
  case round =>
    clear HB0
    obtain ⟨k, hk, rfl, HB, HP⟩ := hrel
    by_cases hkm : k < m
    · have hkm2 : (k : Int) < (m : Int) := by omega
      have i0 : (0 : Int) ≤ (k : Int) := by omega
      have q0 : decide ((k : Int) < (m : Int)) = true := decide_eq_true hkm2
      have q01 : decide (k < m) = true := decide_eq_true hkm
      obtain ⟨x, hx⟩ : ∃ x, ps[k]? = some x := ⟨ps[k]'(by rw [HML.out]; exact hkm), List.getElem?_eq_getElem _⟩
      have HPW := own_kept HPS.out HB.out
      obtain ⟨g, rfl, hg1, hg2⟩ := own_head HPW (by omega)
      obtain ⟨m0, m1⟩ := pairs_cell HPW hx
      have hqw := (HB.out.block qb (Array.getElem?_eq_some_iff.1 HQ.out).1).trans HQ.out
      have y0 := cell_of_row _ qb 0 _ _ (0, 0) hqw
      have y1 := cell_of_row _ qb 1 _ _ (0, 0) hqw
      have hql := (Array.getElem?_eq_some_iff.1 hqw).1
      have hnq := fun w => neq_pairs w x y
      have hgu := gu_pair
      have HE := Lib.hid (pair_eqv a e x y)
      have HX : Hid ((ps.map pairL)[k]? = some (pairL x)) := by show _ = _; rw [List.getElem?_map, hx]; rfl
      have HBD := Lib.hid HB.out
      clear hx HPW hqw hg1
      simp at y0 y1
      by_cases hxy : x = y
      · have q2 : (!decide (x = y)) = false := by rw [decide_eq_true hxy]; rfl
        rw [q2] at hnq
        have HK : Hid (KAt (fun z => (pairW a e).eqv z (pairL y)) (ps.map pairL) k) := .inl ⟨findI_at HP.out HX.out (by rw [HE.out]; exact decide_eq_true hxy), by rw [List.length_map, HML.out]; exact hkm⟩
        clear HP HE HX q2 hxy
        obtain ⟨x1, x2⟩ := x
        obtain ⟨z1, z2⟩ := y
        simp only at m0 m1 y0 y1 hnq
        go_wp2_with fail
        go_quiet (fail)
        go_wp2_with fail
        exact hexit k _ _ _ _ _ _ _ _ _ _ _ _ _ _ _ hk (Lib.hid (below_drewN HBD.out nq)) HK
      · have q2 : (!decide (x = y)) = true := by rw [decide_eq_false hxy]; rfl
        rw [q2] at hnq
        have HPN : Hid (∀ (j : Nat) z, j < k + 1 → (ps.map pairL)[j]? = some z → (pairW a e).eqv z (pairL y) = false) := fun j z hj hz => by
          by_cases e' : j < k
          · exact HP.out j z e' hz
          · obtain rfl : j = k := by omega
            rw [HX.out] at hz
            injection hz with hz
            rw [← hz, HE.out]
            exact decide_eq_false hxy
        clear HP HE HX q2 hxy
        obtain ⟨x1, x2⟩ := x
        obtain ⟨z1, z2⟩ := y
        simp only at m0 m1 y0 y1 hnq
        go_wp2_with fail
        go_quiet (fail)
        go_wp2_with fail
        go_roundw
        case rel => exact ⟨k + 1, by omega, by go_num, Lib.hid (below_drewN HBD.out nq), HPN⟩
        case measure => simp [intOf]; omega
    · obtain rfl : k = m := by omega
      have q0 : decide ((k : Int) < (k : Int)) = false := decide_eq_false (by omega)
      have q01 : decide (k < k) = false := decide_eq_false (by omega)
      have HK : Hid (KAt (fun z => (pairW a e).eqv z (pairL y)) (ps.map pairL) k) := .inr ⟨findI_end HP.out (by rw [List.length_map, HML.out]; exact Nat.le_refl _), by rw [List.length_map]; exact HML.out.symm⟩
      have HBD := Lib.hid HB.out
      clear HP
      go_wp2_with fail
      go_quiet (fail)
      go_wp2_with fail
      exact hexit k _ _ _ _ _ _ _ _ _ _ _ _ _ _ _ hk (Lib.hid (below_drewN HBD.out nq)) HK
end Go.Proofs.YtebdffabfimmkaaDoor
