/- The reference's apart: what its loops keep (plain Lean). -/
import Derived.Test.YtebdffabfimmkaaDoorHDfaTight15
import Derived.Test.YtebdffabfimmkaaDoorHDfaTight20
import Derived.Test.YtebdffabfimmkaaDoorHDfaTight17
import Derived.Test.YtebdffabfimmkaaDoorHDfaTight14
import Derived.Test.YtebdffabfimmkaaDoorHDfaTight18
namespace Go.Proofs.YtebdffabfimmkaaDoor

/-- How many are not apart yet. -/
def offF (F : List (List Bool)) : Nat := (F.map fun r => (r.filter (!·)).length).sum
theorem offr_set {L : List Bool} {i : Nat} (h : L[i]? = some false) : ((L.set i true).filter (!·)).length + 1 = (L.filter (!·)).length := by
  induction L generalizing i with
  | nil => simp at h
  | cons b r ih =>
    cases i with
    | zero =>
      simp at h
      subst h
      simp
    | succ i =>
      simp at h
      have := ih h
      simp only [List.set_cons_succ]
      cases b <;> simp <;> omega
theorem offF_set {F : List (List Bool)} {i k : Nat} {r : List Bool} (hr : F[i]? = some r) (hk : r[k]? = some false) : offF (F.set i (r.set k true)) + 1 = offF F := by
  unfold offF
  induction F generalizing i with
  | nil => simp at hr
  | cons x t ih =>
    cases i with
    | zero =>
      simp at hr
      subst hr
      have := offr_set hk
      simp only [List.set_cons_zero, List.map_cons, List.sum_cons]
      omega
    | succ i =>
      simp at hr
      have := ih hr
      simp only [List.set_cons_succ, List.map_cons, List.sum_cons]
      omega
def ap0 (d : List St) : List (List Bool) := d.map fun s => d.map fun t => s.1 != t.1
theorem ap0_cell {d : List St} {i k : Nat} : cellF (ap0 d) i k = (d[i]?).bind fun s => (d[k]?).map fun t => s.1 != t.1 := by
  unfold cellF ap0
  rw [List.getElem?_map]
  cases d[i]? with
  | none => rfl
  | some s =>
    simp only [Option.map_some, Option.bind_some]
    rw [List.getElem?_map]
theorem ap0_start (d : List St) : ApP d (ap0 d) := by
  refine ⟨List.length_map .., fun r hr => ?_, fun i k h => ⟨[], ?_⟩, fun i k hi hk h => ?_⟩
  · obtain ⟨s, _, rfl⟩ := List.mem_map.1 hr
    exact List.length_map ..
  · rw [ap0_cell] at h
    obtain ⟨s, hs, h⟩ := Option.bind_eq_some_iff.1 h
    obtain ⟨t, ht, h⟩ := Option.map_eq_some_iff.1 h
    show ((d[i]?).map (·.1)).getD false ≠ ((d[k]?).map (·.1)).getD false
    rw [hs, ht]
    simpa using h
  · rw [ap0_cell, List.getElem?_eq_getElem hi, List.getElem?_eq_getElem hk]
    replace h : ((d[i]?).map (·.1)).getD false ≠ ((d[k]?).map (·.1)).getD false := h
    rw [List.getElem?_eq_getElem hi, List.getElem?_eq_getElem hk] at h
    simpa using h
theorem ApP.set {d : List St} (hg : Good d) {L : List Bool} (hL : Gone d L) {F : List (List Bool)} (h : ApP d F) {i k : Nat} (hi : i < d.length) (hk : k < d.length) {r : List Bool} (hr : F[i]? = some r) (hu : unlB d L F i k = true) : ApP d (F.set i (r.set k true)) := by
  have hrl := h.row r (List.mem_of_getElem? hr)
  refine ⟨by rw [List.length_set]; exact h.len, fun q hq => ?_, fun x y hxy => ?_, fun x y hx hy hf => ?_⟩
  · rcases List.mem_or_eq_of_mem_set hq with hq | rfl
    · exact h.row q hq
    · rw [List.length_set]; exact hrl
  · rw [cell_set hr (by omega)] at hxy
    split at hxy
    · rename_i e
      obtain ⟨rfl, rfl⟩ := e
      exact unl_sound hg hL h hi hk hu
    · exact h.sound x y hxy
  · rw [cell_set hr (by omega)]
    split
    · rfl
    · exact h.base x y hx hy hf
/-- Nothing is unlike as far as one has come. -/
def ApTo (d : List St) (L : List Bool) (F : List (List Bool)) (i k : Nat) : Prop := ∀ i' k' : Nat, i' < d.length → k' < d.length → (i' < i ∨ i' = i ∧ k' < k) → cellF F i' k' = some false → unlB d L F i' k' = false
theorem ApTo.zero (d : List St) (L : List Bool) (F : List (List Bool)) : ApTo d L F 0 0 := fun i' k' _ _ h => by omega
theorem ApTo.one {d : List St} {L : List Bool} {F : List (List Bool)} {i k : Nat} (h : ApTo d L F i k) (hu : cellF F i k = some false → unlB d L F i k = false) : ApTo d L F i (k + 1) := fun i' k' h1 h2 h3 h4 => by
  by_cases e : i' = i ∧ k' = k
  · obtain ⟨rfl, rfl⟩ := e
    exact hu h4
  · exact h i' k' h1 h2 (by omega) h4
theorem ApTo.next {d : List St} {L : List Bool} {F : List (List Bool)} {i k : Nat} (h : ApTo d L F i k) (hk : d.length ≤ k) : ApTo d L F (i + 1) 0 := fun i' k' h1 h2 h3 h4 => h i' k' h1 h2 (by omega) h4
/-- Which states take the same is told. -/
def Far (d : List St) (F : List (List Bool)) : Prop := ∀ i k, i < d.length → k < d.length → (cellF F i k = some true ↔ ¬ Leq (auOf d) i (auOf d) k)
theorem ApP.far {d : List St} (hg : Good d) {L : List Bool} (hL : Gone d L) {F : List (List Bool)} (h : ApP d F) (hc : ApTo d L F d.length 0) : Far d F := fun i k hi hk => by
  constructor
  · intro h1 h2
    obtain ⟨t, ht⟩ := h.sound i k h1
    exact ht (h2 t)
  · intro h1
    obtain ⟨b, hb⟩ := cell_some h hi hk
    cases b with
    | true => exact hb
    | false => exact absurd (fun t => h.done hg hL (fun i k h1 h2 h3 => hc i k h1 h2 (.inl h1) h3) t i k hi hk hb) h1
/-- In the midst of the first marks. -/
structure IniP (d : List St) (F : List (List Bool)) (i k : Nat) : Prop where
  len : F.length = d.length
  done : ∀ (x : Nat) s, x < i → d[x]? = some s → F[x]? = some (d.map fun t => s.1 != t.1)
  cur : ∀ s, d[i]? = some s → 0 < k → ∃ r, F[i]? = some r ∧ r.length = d.length ∧ ∀ (y : Nat) t, y < k → d[y]? = some t → r[y]? = some (s.1 != t.1)
theorem IniP.start {d : List St} {F : List (List Bool)} (h : F.length = d.length) : IniP d F 0 0 := ⟨h, fun x s h => absurd h (by omega), fun s _ h => absurd h (by omega)⟩
theorem IniP.make {d : List St} {F : List (List Bool)} {i : Nat} (h : IniP d F i 0) (r : List Bool) : IniP d (F.set i r) i 0 :=
  ⟨by rw [List.length_set]; exact h.len, fun x s hx hs => by rw [List.getElem?_set_ne (by omega)]; exact h.done x s hx hs, fun s _ h => absurd h (by omega)⟩
theorem IniP.one {d : List St} {F : List (List Bool)} {i k : Nat} {s t : St} {r : List Bool} (h : IniP d F i k) (hs : d[i]? = some s) (ht : d[k]? = some t) (hr : F[i]? = some r) (hl : r.length = d.length) : IniP d (F.set i (r.set k (s.1 != t.1))) i (k + 1) := by
  have hi := (List.getElem?_eq_some_iff.1 hr).1
  have hk := (List.getElem?_eq_some_iff.1 ht).1
  refine ⟨by rw [List.length_set]; exact h.len, fun x s' hx hs' => by rw [List.getElem?_set_ne (by omega)]; exact h.done x s' hx hs', fun s' hs' _ => ?_⟩
  rw [hs] at hs'
  injection hs' with hs'
  subst hs'
  refine ⟨r.set k (s.1 != t.1), by rw [List.getElem?_set_self hi], by rw [List.length_set]; exact hl, fun y u hy hu => ?_⟩
  by_cases e : k = y
  · subst e
    rw [ht] at hu
    injection hu with hu
    subst hu
    rw [List.getElem?_set_self (by omega)]
  · rw [List.getElem?_set_ne e]
    obtain ⟨r', h1, h2, h3⟩ := h.cur s hs (by omega)
    rw [hr] at h1
    injection h1 with h1
    subst h1
    exact h3 y u (by omega) hu
theorem IniP.next {d : List St} {F : List (List Bool)} {i k : Nat} (h : IniP d F i k) (hk : d.length ≤ k) (hi : i < d.length) : IniP d F (i + 1) 0 := by
  refine ⟨h.len, fun x s hx hs => ?_, fun s _ h => absurd h (by omega)⟩
  by_cases e : x < i
  · exact h.done x s e hs
  · obtain rfl : x = i := by omega
    obtain ⟨r, h1, h2, h3⟩ := h.cur s hs (by omega)
    rw [h1]
    congr 1
    apply List.ext_getElem?
    intro y
    by_cases hy : y < d.length
    · rw [h3 y d[y] (by omega) (List.getElem?_eq_getElem hy), List.getElem?_map, List.getElem?_eq_getElem hy]
      rfl
    · rw [List.getElem?_eq_none (by omega), List.getElem?_eq_none (by rw [List.length_map]; omega)]
theorem IniP.last {d : List St} {F : List (List Bool)} (h : IniP d F d.length 0) : F = ap0 d := by
  unfold ap0
  apply List.ext_getElem?
  intro y
  by_cases hy : y < d.length
  · rw [h.done y d[y] hy (List.getElem?_eq_getElem hy), List.getElem?_map, List.getElem?_eq_getElem hy]
    rfl
  · rw [List.getElem?_eq_none (by rw [h.len]; omega), List.getElem?_eq_none (by rw [List.length_map]; omega)]
end Go.Proofs.YtebdffabfimmkaaDoor
/- The reference's Least: which of the states that are met takes the same. -/
namespace Go.Proofs.YtebdffabfimmkaaDoor
open Go.RowKit Go.Maps

/-- A place, or behind all. -/
def KAt {σ : Type} (p : σ → Bool) (met : List σ) (k : Nat) : Prop := (findI p met = some k ∧ k < met.length) ∨ (findI p met = none ∧ k = met.length)
theorem findI_at {σ : Type} {p : σ → Bool} : ∀ {met : List σ} {k : Nat} {z : σ}, (∀ (j : Nat) x, j < k → met[j]? = some x → p x = false) → met[k]? = some z → p z = true → findI p met = some k
  | [], k, z, _, hz, _ => by simp at hz
  | x :: r, 0, z, _, hz, hp => by
    simp at hz
    subst hz
    rw [findI, if_pos hp]
  | x :: r, k + 1, z, h, hz, hp => by
    rw [findI, if_neg (by rw [h 0 x (by omega) rfl]; exact Bool.false_ne_true), findI_at (k := k) (fun j y hj hy => h (j + 1) y (by omega) (by simpa using hy)) (by simpa using hz) hp]
    rfl
theorem findI_end {σ : Type} {p : σ → Bool} {met : List σ} {k : Nat} (h : ∀ (j : Nat) x, j < k → met[j]? = some x → p x = false) (hk : met.length ≤ k) : findI p met = none :=
  findI_none.2 fun x hx => by
    obtain ⟨j, hj⟩ := List.mem_iff_getElem?.1 hx
    exact h j x (Nat.lt_of_lt_of_le (List.getElem?_eq_some_iff.1 hj).1 hk) hj
abbrev natC (l : List Nat) : List Value := l.map fun z : Nat => Value.int .i64 (z : Int)
/-- The states that are met: no two the same, all of them there. -/
def MetP (n : Nat) (met : List Nat) : Prop := met.Nodup ∧ ∀ x ∈ met, x < n
theorem MetP.few {n : Nat} {met : List Nat} (h : MetP n met) : met.length ≤ n := apart_few (cls := id) h.1 h.2
open Classical in
theorem far_eqv {d : List St} {F : List (List Bool)} (h : Far d F) {x y : Nat} {b : Bool} (hx : x < d.length) (hy : y < d.length) (hb : cellF F x y = some b) : (leastW (auOf d) id).eqv x y = !b := by
  have h1 := h x y hx hy
  rw [hb] at h1
  show decide (Leq (auOf d) x (auOf d) y) = !b
  cases b with
  | true => exact decide_eq_false (h1.1 rfl)
  | false => exact decide_eq_true (Classical.byContradiction fun h2 => by cases h1.2 h2)
set_option linter.unusedVariables false in
set_option maxRecDepth 100000 in
set_option maxHeartbeats 8000000 in
theorem least_k (W0 : World) (n cf : Nat) (Af : Option Addr) (R : List Br) (HM : Hid (Mat W0 W0.heap.size Af n R)) (d : List St) (HLL : Hid (d.length = n)) (hcm : n ≤ 20000) (HF : Hid (Far d (R.map (·.l)))) (Am : Option Addr) (m cm : Nat) (met : List Nat) (HMet : Hid (Sl W0 W0.heap.size 1 Am m (natC met))) (HMP : Hid (MetP n met)) (y : Nat) (hy : y < n)
    (c0 c1 c2 c3 c6 c7 c8 c9 c12 c13 c14 c15 c16 c17 c18 c19 c20 c21 c22 c23 c24 c25 c26 c27 c28 c29 c30 c31 c32 c33 c34 c35 c36 c37 c38 c39 c40 c41 c42 c43 c44 c45 c46 c47 c48 c49 c50 c51 c70 c71 c72 c73 c74 c75 c76 c77 c78 c79 c80 c81 c82 c83 c84 c85 c86 c87 c88 u52 u53 u54 u55 u56 u57 u58 u59 u60 u61 u62 u63 u64 u65 u66 u67 u68 u69 : Value) (Q0 : Exit → Act → World → Prop) (hQ0 : ∀ c (a a' : Act) w, a.defers = a'.defers → Q0 (.panic c) a w → Q0 (.panic c) a' w)
    (hexit : ∀ (k : Nat) (u52 u53 u54 u55 u56 u57 u58 u59 u60 u61 u62 u63 u64 u65 u66 u67 u68 u69 : Value), k ≤ m → Hid (KAt (fun z => (leastW (auOf d) id).eqv z y) met k) → Q0 (.exit 4) ⟨List.toArray (c0 :: c1 :: c2 :: c3 :: .slice Af n cf :: .slice Am m cm :: c6 :: c7 :: c8 :: c9 :: .int .i64 (y : Int) :: .int .i64 (k : Int) :: c12 :: c13 :: c14 :: c15 :: c16 :: c17 :: c18 :: c19 :: c20 :: c21 :: c22 :: c23 :: c24 :: c25 :: c26 :: c27 :: c28 :: c29 :: c30 :: c31 :: c32 :: c33 :: c34 :: c35 :: c36 :: c37 :: c38 :: c39 :: c40 :: c41 :: c42 :: c43 :: c44 :: c45 :: c46 :: c47 :: c48 :: c49 :: c50 :: c51 :: u52 :: u53 :: u54 :: u55 :: u56 :: u57 :: u58 :: u59 :: u60 :: u61 :: u62 :: u63 :: u64 :: u65 :: u66 :: u67 :: u68 :: u69 :: c70 :: c71 :: c72 :: c73 :: c74 :: c75 :: c76 :: c77 :: c78 :: c79 :: c80 :: c81 :: c82 :: c83 :: c84 :: c85 :: c86 :: c87 :: c88 :: []), []⟩ W0) :
    Code.wp Tryd.prog (.loop (loopOf Tryd.f24 2)) Q0 ⟨List.toArray (c0 :: c1 :: c2 :: c3 :: .slice Af n cf :: .slice Am m cm :: c6 :: c7 :: c8 :: c9 :: .int .i64 (y : Int) :: .int .i64 (0 : Int) :: c12 :: c13 :: c14 :: c15 :: c16 :: c17 :: c18 :: c19 :: c20 :: c21 :: c22 :: c23 :: c24 :: c25 :: c26 :: c27 :: c28 :: c29 :: c30 :: c31 :: c32 :: c33 :: c34 :: c35 :: c36 :: c37 :: c38 :: c39 :: c40 :: c41 :: c42 :: c43 :: c44 :: c45 :: c46 :: c47 :: c48 :: c49 :: c50 :: c51 :: u52 :: u53 :: u54 :: u55 :: u56 :: u57 :: u58 :: u59 :: u60 :: u61 :: u62 :: u63 :: u64 :: u65 :: u66 :: u67 :: u68 :: u69 :: c70 :: c71 :: c72 :: c73 :: c74 :: c75 :: c76 :: c77 :: c78 :: c79 :: c80 :: c81 :: c82 :: c83 :: c84 :: c85 :: c86 :: c87 :: c88 :: []), []⟩ W0 := by
  have hml : met.length = m := by have := HMet.out.1; unfold natC at this; rw [List.length_map] at this; omega
  have hmn : m ≤ n := by rw [← hml]; exact HMP.out.few
  have HML := Lib.hid hml
  clear hml
  conv => arg 2; arg 1; whnf
  go_loop [11] (fun kv => ∃ k : Nat, k ≤ m ∧ kv = .int .i64 k ∧ Hid (∀ (j : Nat) x, j < k → met[j]? = some x → (leastW (auOf d) id).eqv x y = false)) (fun kv => m - (intOf kv).toNat)
  case atStart => exact ⟨0, Nat.zero_le _, rfl, fun j x h => absurd h (by omega)⟩
  case round =>
    obtain ⟨k, hk, rfl, HP⟩ := hrel
    by_cases hkm : k < m
    · have hkm2 : (k : Int) < (m : Int) := by omega
      have q0 : decide ((k : Int) < (m : Int)) = true := decide_eq_true hkm2
      have q01 : decide (k < m) = true := decide_eq_true hkm
      obtain ⟨x, hx⟩ : ∃ x, met[k]? = some x := ⟨met[k]'(by rw [HML.out]; exact hkm), List.getElem?_eq_getElem _⟩
      have hxn := HMP.out.2 x (List.mem_of_getElem? hx)
      obtain ⟨mb, mo, rfl, hmb, hmc⟩ := HMet.out.at_ hkm
      have m0 := hmc k (.int .i64 (x : Int)) (by unfold natC; rw [List.getElem?_map, hx]; rfl)
      obtain ⟨b, hb⟩ := HM.out.cell hxn hy
      obtain ⟨ob, oo, xc, rb, ro, rfl, hob, f0, hrb, f1⟩ := HM.out.get hb
      have HE := Lib.hid (far_eqv HF.out (by rw [HLL.out]; exact hxn) (by rw [HLL.out]; exact hy) hb)
      have HX := Lib.hid hx
      have hxn2 : (x : Int) < (n : Int) := by omega
      have hyn2 : (y : Int) < (n : Int) := by omega
      clear hmc hb hx
      cases b
      · have HK : Hid (KAt (fun z => (leastW (auOf d) id).eqv z y) met k) := .inl ⟨findI_at HP.out HX.out HE.out, by rw [HML.out]; exact hkm⟩
        clear HP HE HX
        go_wp2_with fail
        exact hexit k _ _ _ _ _ _ _ _ _ _ _ _ _ _ _ _ _ _ hk HK
      · have HPN : Hid (∀ (j : Nat) x, j < k + 1 → met[j]? = some x → (leastW (auOf d) id).eqv x y = false) := fun j z hj hz => by
          by_cases e : j < k
          · exact HP.out j z e hz
          · obtain rfl : j = k := by omega
            rw [HX.out] at hz
            injection hz with hz
            rw [← hz]
            exact HE.out
        clear HP HE HX
        go_wp2_with fail
        go_round
        case rel => exact ⟨k + 1, by omega, by go_num, HPN⟩
        case measure => simp [intOf]; omega
    · obtain rfl : k = m := by omega
      have q0 : decide ((k : Int) < (k : Int)) = false := decide_eq_false (by omega)
      have q01 : decide (k < k) = false := decide_eq_false (by omega)
      have HK : Hid (KAt (fun z => (leastW (auOf d) id).eqv z y) met k) := .inr ⟨findI_end HP.out (by rw [HML.out]; exact Nat.le_refl _), HML.out.symm⟩
      clear HP
      go_wp2_with fail
      exact hexit k _ _ _ _ _ _ _ _ _ _ _ _ _ _ _ _ _ _ hk HK
end Go.Proofs.YtebdffabfimmkaaDoor
/- The reference's none and place. -/
namespace Go.Proofs.YtebdffabfimmkaaDoor
open Go.RowKit Go.Maps

set_option maxRecDepth 100000 in
set_option maxHeartbeats 8000000 in
theorem none_any (w : World) (n c : Nat) (hn : n ≤ 140737488355328) (A : Option Addr) (L : List Bool) (hL : Sl w w.heap.size 1 A n (L.map .bool)) :
    Calls Tryd.prog 35 #[.slice A n c] w fun e w' => e = .returned (.bool (noneB L)) ∧ Below w.heap.size w w' := by
  have HL := Lib.hid hL
  have hl : L.length = n := by have := hL.1; rw [List.length_map] at this; omega
  have HLL := Lib.hid hl
  clear hL hl
  go_enter Tryd.func35, Tryd.ntmps35
  go_wp2_with fail
  go_loop [3] (fun kv => ∃ k : Nat, k ≤ n ∧ kv = .int .i64 k ∧ Hid ((L.take k).any id = false)) (fun kv => n - (intOf kv).toNat)
  case atStart => exact ⟨0, Nat.zero_le _, rfl, rfl⟩
  case round =>
    obtain ⟨k, hk, rfl, HP⟩ := hrel
    by_cases hkn : k < n
    · obtain ⟨b, hb⟩ : ∃ b, L[k]? = some b := ⟨L[k]'(by rw [HLL.out]; exact hkn), List.getElem?_eq_getElem _⟩
      obtain ⟨lb, lo, rfl, hlb, hlc⟩ := HL.out.at_ (by omega)
      have l0 := hlc k (.bool b) (by rw [List.getElem?_map, hb]; rfl)
      have hkn2 : (k : Int) < (n : Int) := by omega
      have HB := Lib.hid hb
      clear hlc hb
      cases b
      · have HPN : Hid ((L.take (k + 1)).any id = false) := by
          show _ = _
          rw [List.take_add_one, HB.out, List.any_append, HP.out]
          rfl
        clear HP HB
        go_wp2_with fail
        go_round
        case rel => exact ⟨k + 1, by omega, by go_num, HPN⟩
        case measure => simp [intOf]; omega
      · have HE : Hid (noneB L = false) := by
          show _ = _
          unfold noneB
          rw [List.any_eq_true.2 ⟨true, List.mem_of_getElem? HB.out, rfl⟩]
          rfl
        clear HP HB
        go_wp2_with fail
        go_ret
        exact ⟨by rw [HE.out]; rfl, brefl w⟩
    · obtain rfl : k = n := by omega
      have HE : Hid (noneB L = true) := by
        show _ = _
        have h1 := HP.out
        rw [List.take_of_length_le (by rw [HLL.out]; exact Nat.le_refl _)] at h1
        unfold noneB
        rw [h1]
        rfl
      clear HP
      go_wp2_with fail
      go_ret
      exact ⟨by rw [HE.out]; rfl, brefl w⟩
/-- Rows of bools, all of one length. -/
structure Sets (w : World) (B : Nat) (A : Option Addr) (m n : Nat) (R : List Br) : Prop where
  len : R.length = m
  sl : Sl w B 1 A m (R.map Br.val)
  ar : ∀ x ∈ R, Sl w B 1 x.A x.l.length (x.l.map .bool) ∧ x.l.length = n
theorem Sets.keep {w w' : World} {B B' m n : Nat} {A : Option Addr} {R : List Br} (h : Sets w B A m n R) (hb : Below B w w') (hB : B ≤ B') : Sets w' B' A m n R :=
  ⟨h.len, (h.sl.below hb).more hB, fun x hx => ⟨((h.ar x hx).1.below hb).more hB, (h.ar x hx).2⟩⟩
def placeZ (R : List (List Bool)) (S : List Bool) : Int := match findI (fun z => decide (z = S)) R with
  | some i => (i : Int)
  | none => -1
set_option maxRecDepth 100000 in
set_option maxHeartbeats 8000000 in
theorem place_any (w : World) (A : Option Addr) (m cm n c : Nat) (hm : m ≤ 140737488355328) (hn : n ≤ 140737488355328) (R : List Br) (hR : Sets w w.heap.size A m n R) (As : Option Addr) (L : List Bool) (hL : Sl w w.heap.size 1 As n (L.map .bool)) :
    Calls Tryd.prog 36 #[.slice A m cm, .slice As n c] w fun e w' => e = .returned (.int .i64 (placeZ (R.map (·.l)) L)) ∧ Below w.heap.size w w' := by
  have HR := Lib.hid hR
  have HL := Lib.hid hL
  have hl : L.length = n := by have := hL.1; rw [List.length_map] at this; omega
  have HLL := Lib.hid hl
  have hrl := hR.len
  have HRL := Lib.hid hrl
  clear hR hL hl hrl
  go_enter Tryd.func36, Tryd.ntmps36
  go_wp2_with fail
  go_loopw [5] (fun iv wr => ∃ i : Nat, i ≤ m ∧ iv = .int .i64 i ∧ Hid (∀ (j : Nat) x, j < i → (R.map (·.l))[j]? = some x → decide (x = L) = false) ∧ Hid (Below w.heap.size w wr)) (fun iv _ => m - (intOf iv).toNat)
  case atStart => exact ⟨0, Nat.zero_le _, rfl, fun j x h => absurd h (by omega), brefl w⟩
  case round =>
    obtain ⟨i, hi, rfl, HP, HB⟩ := hrel
    by_cases him : i < m
    · obtain ⟨x, hx⟩ : ∃ x, R[i]? = some x := ⟨R[i]'(by rw [HRL.out]; exact him), List.getElem?_eq_getElem _⟩
      have HX := Lib.hid hx
      obtain ⟨_, hxl⟩ := HR.out.ar x (List.mem_of_getElem? hx)
      have HXL := Lib.hid hxl
      clear hx hxl
      go_wp2_with fail
      go_loopw [6, 7] (fun sv kv wj => ∃ (k : Nat) (same : Bool), k ≤ n ∧ sv = .bool same ∧ kv = .int .i64 k ∧ Hid (same = true ↔ x.l.take k = L.take k) ∧ Hid (Below w.heap.size w wj)) (fun _ kv _ => n - (intOf kv).toNat)
      case atStart => exact ⟨0, true, Nat.zero_le _, rfl, rfl, Lib.hid (by simp), HB⟩
      case round =>
        clear HB
        obtain ⟨k, same, hk, rfl, rfl, HS, HB⟩ := hrel
        by_cases hkn : k < n
        · obtain ⟨ob, oo, rfl, hob, hoc⟩ := (HR.out.sl.below HB.out).at_ him
          have o0 := hoc i x.val (by rw [List.getElem?_map, HX.out]; rfl)
          obtain ⟨rb, ro, hxA, hrb, hrc⟩ := ((HR.out.ar x (List.mem_of_getElem? HX.out)).1.below HB.out).at_ (by rw [HXL.out]; omega)
          unfold Br.val at o0
          rw [hxA, HXL.out] at o0
          obtain ⟨b1, hb1⟩ : ∃ b, x.l[k]? = some b := ⟨x.l[k]'(by rw [HXL.out]; exact hkn), List.getElem?_eq_getElem _⟩
          obtain ⟨b2, hb2⟩ : ∃ b, L[k]? = some b := ⟨L[k]'(by rw [HLL.out]; exact hkn), List.getElem?_eq_getElem _⟩
          have r0 := hrc k (.bool b1) (by rw [List.getElem?_map, hb1]; rfl)
          obtain ⟨lb, lo, rfl, hlb, hlc⟩ := (HL.out.below HB.out).at_ (by omega)
          have l0 := hlc k (.bool b2) (by rw [List.getElem?_map, hb2]; rfl)
          have hbs := HB.out.size
          have i0 : (0 : Int) ≤ (k : Int) := by omega
          have i1 : (k : Int) < (n : Int) := by omega
          have i2 : (0 : Int) ≤ (i : Int) := by omega
          have i3 : (i : Int) < (m : Int) := by omega
          have HN : Hid ((same && (b1 == b2)) = true ↔ x.l.take (k + 1) = L.take (k + 1)) := by
            show ((same && (b1 == b2)) = true ↔ _)
            have hlen : (x.l.take k).length = (L.take k).length := by rw [List.length_take, List.length_take, HXL.out, HLL.out]
            rw [List.take_add_one, List.take_add_one, hb1, hb2, Bool.and_eq_true, HS.out, beq_iff_eq]
            constructor
            · rintro ⟨h1, h2⟩
              rw [h1, h2]
            · intro h
              have h3 := List.append_inj h hlen
              refine ⟨h3.1, ?_⟩
              have h4 := h3.2
              simpa using h4
          clear hoc hrc hlc hb1 hb2 hxA HS
          cases same
          · go_wp2_with fail
            go_quiet (fail)
            go_wp2_with fail
            go_roundw
            case rel => exact ⟨k + 1, false, by omega, rfl, by go_num, HN, Lib.hid (below_drewN HB.out nq)⟩
            case measure => simp [intOf]; omega
          · cases b1 <;> cases b2
            all_goals
              go_wp2_with fail
              go_quiet (fail)
              go_wp2_with fail
              go_roundw
              case rel => exact ⟨k + 1, _, by omega, rfl, by go_num, HN, Lib.hid (below_drewN HB.out nq)⟩
              case measure => simp [intOf]; omega
        · obtain rfl : k = n := by omega
          have HSE : Hid (same = true ↔ x.l = L) := by
            have h1 := HS.out
            rw [List.take_of_length_le (by rw [HXL.out]; exact Nat.le_refl _), List.take_of_length_le (by rw [HLL.out]; exact Nat.le_refl _)] at h1
            exact h1
          have HXE : Hid ((R.map (·.l))[i]? = some x.l) := by show _ = _; rw [List.getElem?_map, HX.out]; rfl
          clear HS
          cases same
          · have HPN : Hid (∀ (j : Nat) y, j < i + 1 → (R.map (·.l))[j]? = some y → decide (y = L) = false) := fun j y hj hy => by
              by_cases e : j < i
              · exact HP.out j y e hy
              · obtain rfl : j = i := by omega
                rw [HXE.out] at hy
                injection hy with hy
                rw [← hy]
                exact decide_eq_false fun e' => by cases HSE.out.2 e'
            clear HP HSE
            go_wp2_with fail
            go_roundw
            case rel => exact ⟨i + 1, by omega, by go_num, HPN, HB⟩
            case measure => simp [intOf]; omega
          · have HE : Hid (placeZ (R.map (·.l)) L = (i : Int)) := by
              show _ = _
              unfold placeZ
              rw [findI_at HP.out HXE.out (decide_eq_true (HSE.out.1 rfl))]
            clear HP HSE
            go_wp2_with fail
            go_ret
            exact ⟨by rw [HE.out]; rfl, HB.out⟩
    · obtain rfl : i = m := by omega
      have HE : Hid (placeZ (R.map (·.l)) L = -1) := by
        show _ = _
        unfold placeZ
        rw [findI_end HP.out (by rw [List.length_map, HRL.out]; exact Nat.le_refl _)]
      clear HP
      go_wp2_with fail
      go_ret
      exact ⟨by rw [HE.out]; rfl, HB.out⟩
end Go.Proofs.YtebdffabfimmkaaDoor
/- The reference's Spread. -/
namespace Go.Proofs.YtebdffabfimmkaaDoor
open Go.RowKit Go.Maps

theorem el_bool : Elem Tryd.prog 68 4 1 1 := Elem.mk_ Tryd.underlying68 (z := .bool false) (by kernel_rfl) rfl (by omega)
theorem bools_one (L : List Bool) : ∀ u ∈ L.map Value.bool, u.oneCell' = true := fun u hu => by
  obtain ⟨b, _, rfl⟩ := List.mem_map.1 hu
  rfl
set_option maxRecDepth 100000 in
set_option maxHeartbeats 8000000 in
theorem spread_any (w : World) (B : Nat) (hB : B ≤ w.heap.size) (A : Option Addr) (n c : Nat) (H : List Lsh) (h : LoIn w B A n c H) (hg : LGood (H.map (·.d))) (As : Option Addr) (cs : Nat) (B0 : List Bool) (hs : Sl w w.heap.size 1 As n (B0.map .bool)) (hAs : As = none → n = 0) :
    Calls Tryd.prog 32 #[.slice A n c, .slice As n cs] w fun e w' => ∃ A' c', e = .returned (.slice A' n c') ∧ w'.ownsRow w.heap.size 4 1 (.slice A' n c') n ((charL n (Clo (H.map (·.d)) fun y => B0[y]? = some true)).map .bool) ∧ Below w.heap.size w w' := by
  have HS := Lib.hid h
  have HG := Lib.hid hg
  have HB := Lib.hid hs
  have HA0 := Lib.hid hAs
  have hlen := h.len
  have hcm := h.cm
  obtain ⟨l, hl⟩ : ∃ l, H.map (·.d) = l := ⟨_, rfl⟩
  have HL := Lib.hid hl
  have hll : l.length = n := by rw [← hl, List.length_map]; exact hlen
  have HLL := Lib.hid hll
  have hnp : 0 < n := by rw [← hll, ← hl]; exact List.length_pos_iff.2 hg.ne
  rw [hl] at HG ⊢
  have hB0 : B0.length = n := by have := hs.1; rw [List.length_map] at this; omega
  have HB0 := Lib.hid hB0
  clear h hg hs hAs hl hll hB0
  go_enter Tryd.func32, Tryd.ntmps32
  go_wp2_with (at_builtin; refine wpList_append_sl (base := w.heap.size) w _ rfl _ _ _ rfl el_bool (.slice (some ⟨w.heap.size, 0, none⟩) 0 0) 0 [] rfl (own_lit w _ 1 rfl (Nat.le_refl _)) (A := As) (m := n) (c := cs) (news := B0.map .bool) (B := w.heap.size) rfl (HB.out.below (bnew (brefl w) _)) HA0.out (bools_one B0) (by unfold maxLen; omega) (by omega) (by simp) (bnew (brefl w) _) ?_; intro v1 w1 hown1 hb1 _ _)
  rw [Nat.zero_add, List.nil_append] at hown1
  obtain ⟨A1, oc, rfl, hoc⟩ := own_shape hown1
  obtain ⟨ob, rfl, hob, how⟩ := own_head hown1 hnp
  have HR1 : Hid (SpR w w1 ob oc n B0) := ⟨hown1, hb1⟩
  have HP1 : Hid (SpP l B0 B0 ∧ (true = false → ClsTo l B0 l.length 0)) := ⟨.start (by rw [HB0.out, HLL.out]), fun h => by cases h⟩
  clear hown1 hb1 hob how hoc
  go_loopg [6] (2 * offs B0 + 1) (fun gk mv wr => ∃ (L : List Bool) (more : Bool), mv = .bool more ∧ Hid (SpR w wr ob oc n L) ∧ Hid (SpP l B0 L ∧ (more = false → ClsTo l L l.length 0)) ∧ Hid (2 * offs L + (if more then 1 else 0) ≤ gk))
  case atStart => exact ⟨B0, true, rfl, HR1, HP1, Nat.le_refl _⟩
  case round =>
    clear HR1 HP1
    obtain ⟨L, more, rfl, HR, HP, HK⟩ := hrel
    cases more
    · have HE : Hid (L = charL n (Clo l fun y => B0[y]? = some true)) := by
        have h1 := HP.out.1.done (HP.out.2 rfl)
        rw [HLL.out] at h1
        exact h1
      clear HP HK
      go_wp2_with fail
      go_ret
      exact ⟨_, _, rfl, by rw [← HE.out]; exact HR.out.own, HR.out.bel⟩
    · have HP2 : Hid (SpP l B0 L ∧ (false = false → ClsTo l L 0 0) ∧ 2 * offs L + (if false then 1 else 0) + 1 ≤ gk) := ⟨HP.out.1, fun _ => .zero _ _, HK.out⟩
      clear HP HK
      go_wp2_with fail
      go_loopw [6, 7] (fun mv iv wr => ∃ (i : Nat) (L : List Bool) (more : Bool), i ≤ n ∧ mv = .bool more ∧ iv = .int .i64 i ∧ Hid (SpR w wr ob oc n L) ∧ Hid (SpP l B0 L ∧ (more = false → ClsTo l L i 0) ∧ 2 * offs L + (if more then 1 else 0) + 1 ≤ gk)) (fun _ iv _ => n - (intOf iv).toNat)
      case atStart => exact ⟨0, L, false, Nat.zero_le _, rfl, rfl, HR, Lib.hid ⟨HP2.out.1, fun _ => HP2.out.2.1 trivial, HP2.out.2.2⟩⟩
      case round =>
        clear HR HP2
        obtain ⟨i, L, more, hi, rfl, rfl, HR, HP⟩ := hrel
        by_cases hin : i < n
        · obtain ⟨x, hx⟩ : ∃ x, H[i]? = some x := ⟨H[i]'(by omega), List.getElem?_eq_getElem _⟩
          have HX := Lib.hid hx
          clear hx
          go_wp2_with fail
          refine spread_k w wr B hB A n c H HS l HL HG hlen hcm i hin x HX ob oc gk B0 L more HR HP _ _ _ _ _ _ _ _ _ _ _ _ _ _ _ _ _ _ _ _ _ _ _ _ _ _ _ _ _ _ _ _ _ _ _ _ _ _ _ _ _ _ _ _ _ _ _ _ _ _ _ _ _ _ (fun c a a' w hd h => by cases a; cases a'; cases hd; exact h) ?_
          intro L more W x8 u19 u20 u21 u22 u23 u24 u25 u26 u27 u28 u29 u30 u31 u32 u33 u34 u35 u36 u37 u38 u39 u40 u41 u42 u43 u44 u45 u46 u47 u48 u49 u50 u51 u52 u53 u54 u55 u56 HR HP
          go_wp2_with fail
          go_roundw
          case rel => exact ⟨i + 1, L, more, by omega, rfl, by go_num, HR, HP⟩
          case measure => simp [intOf]; omega
        · obtain rfl : i = n := by omega
          have HPZ : Hid (SpP l B0 L ∧ (more = false → ClsTo l L l.length 0)) := ⟨HP.out.1, by rw [HLL.out]; exact HP.out.2.1⟩
          have HKZ : Hid (2 * offs L + (if more then 1 else 0) + 1 ≤ gk) := HP.out.2.2
          clear HP
          go_wp2_with fail
          go_roundg (gk - 1)
          case measure => have := HKZ.out; omega
          case rel => exact ⟨L, more, rfl, HR, HPZ, by have := HKZ.out; show _ ≤ _; omega⟩
end Go.Proofs.YtebdffabfimmkaaDoor
