/- The rows of a range of characters: what they look like, which texts fit them (plain Lean). -/
import Derived.Test.YtclahhkcbkpofaaDoorHWd19
import Derived.Test.YtclahhkcbkpofaaDoorHWd1
namespace Go.Proofs.YtclahhkcbkpofaaDoor.Sp
/-- A row of a class. -/
def UOk (s : Int) (r : List (Int × Int)) : Prop := (1 ≤ r.length ∧ r.length ≤ 4) ∧ (∀ p ∈ r, 0 ≤ p.1 ∧ 0 ≤ p.2) ∧ (1 < r.length → ∀ p, r[0]? = some p → 192 ≤ p.1) ∧ (∀ (k : Nat) p, 0 < k → r[k]? = some p → 128 ≤ p.1 ∧ p.2 ≤ 191) ∧ ((r.length : Int) = s) ∧ (r.length = 1 → ∀ p ∈ r, p.2 ≤ 127)
theorem leaf_u {lo hi : Int} (h : lo ≤ hi) (hk : Cls lo hi) : UOk (szC lo) (leafC lo hi) := by
  have hs := sz_cls (lo := lo)
  rcases leaf_case h hk with ⟨a, b, e⟩ | ⟨a, b, e⟩ | ⟨a, b, e⟩ | ⟨a, b, e⟩
  all_goals
    rw [e]
  · refine ⟨by simp, fun p hp => ?_, fun h => by simp at h, fun k p hk hp => ?_, by simp; omega, fun _ p hp => ?_⟩
    · rw [List.mem_singleton.1 hp]; exact ⟨a, by show 0 ≤ hi; omega⟩
    · have := (List.getElem?_eq_some_iff.1 hp).1
      simp at this
      omega
    · rw [List.mem_singleton.1 hp]; exact b
  · refine ⟨by simp, fun p hp => ?_, fun _ p hp => ?_, fun k p hk hp => ?_, by simp; omega, fun h => by simp at h⟩
    · simp only [List.mem_cons, List.not_mem_nil, or_false] at hp
      rcases hp with rfl | rfl
      · constructor <;> simp only <;> omega
      · constructor <;> simp only <;> omega
    · injection hp with hp
      subst hp
      simp only
      omega
    · have hl := (List.getElem?_eq_some_iff.1 hp).1
      simp at hl
      obtain rfl : k = 1 := by omega
      injection hp with hp
      subst hp
      constructor <;> simp only <;> omega
  · refine ⟨by simp, fun p hp => ?_, fun _ p hp => ?_, fun k p hk hp => ?_, by simp; omega, fun h => by simp at h⟩
    · simp only [List.mem_cons, List.not_mem_nil, or_false] at hp
      rcases hp with rfl | rfl | rfl
      · constructor <;> simp only <;> omega
      · constructor <;> simp only <;> omega
      · constructor <;> simp only <;> omega
    · injection hp with hp
      subst hp
      simp only
      omega
    · have hl := (List.getElem?_eq_some_iff.1 hp).1
      simp at hl
      obtain rfl | rfl : k = 1 ∨ k = 2 := by omega
      all_goals
        injection hp with hp
        subst hp
        constructor <;> simp only <;> omega
  · refine ⟨by simp, fun p hp => ?_, fun _ p hp => ?_, fun k p hk hp => ?_, by simp; omega, fun h => by simp at h⟩
    · simp only [List.mem_cons, List.not_mem_nil, or_false] at hp
      rcases hp with rfl | rfl | rfl | rfl
      · constructor <;> simp only <;> omega
      · constructor <;> simp only <;> omega
      · constructor <;> simp only <;> omega
      · constructor <;> simp only <;> omega
    · injection hp with hp
      subst hp
      simp only
      omega
    · have hl := (List.getElem?_eq_some_iff.1 hp).1
      simp at hl
      obtain rfl | rfl | rfl : k = 1 ∨ k = 2 ∨ k = 3 := by omega
      all_goals
        injection hp with hp
        subst hp
        constructor <;> simp only <;> omega
theorem rows_u {lo hi : Int} (h : lo ≤ hi) (hk : Cls lo hi) : ∀ r ∈ rowsP lo hi, UOk (szC lo) r := by
  refine rows_ind (motive := fun lo hi => ∀ r ∈ rowsP lo hi, UOk (szC lo) r) ?_ ?_ lo hi h hk
  · intro lo hi c h1 hk hc h2 h3 a b r hr
    rw [rowsP_cut h1 hc, List.mem_append] at hr
    rcases hr with hr | hr
    · exact a r hr
    · have := b r hr
      rwa [sz_same hk (by omega) h3] at this
  · intro lo hi h1 hk hc r hr
    rw [rowsP_leaf hc, List.mem_singleton] at hr
    subst hr
    exact leaf_u h1 hk
theorem part_u {lo hi x y s : Int} (hc : ∀ a b, a ≤ b → x ≤ a → b ≤ y → Cls a b ∧ szC a = s) : ∀ r ∈ part lo hi x y, UOk s r := by
  unfold part
  split
  · intro r hr
    obtain ⟨k1, k2⟩ := hc _ _ ‹_› (by omega) (by omega)
    have := rows_u ‹_› k1 r hr
    rwa [k2] at this
  · intro r hr; cases hr
theorem filter_none {α : Type} {p : α → Bool} {l : List α} (h : ∀ x ∈ l, p x = false) : (l.filter p).length = 0 := by
  rw [List.filter_eq_nil_iff.2 fun x hx => by rw [h x hx]; exact Bool.false_ne_true]
  rfl
theorem all_parts (lo hi : Int) : ∃ p0 p1 p2 p3 p4 : List (List (Int × Int)), allP lo hi = p0 ++ (p1 ++ (p2 ++ (p3 ++ p4))) ∧ (∀ r ∈ p0, UOk 1 r) ∧ (∀ r ∈ p1, UOk 2 r) ∧ (∀ r ∈ p2, UOk 3 r) ∧ (∀ r ∈ p3, UOk 3 r) ∧ (∀ r ∈ p4, UOk 4 r) ∧ p1.length ≤ 3 ∧ p2.length ≤ 5 ∧ p3.length ≤ 5 ∧ p4.length ≤ 7 := by
  have s1 : ∀ a : Int, a ≤ 127 → szC a = 1 := fun a h => by have := sz_cls (lo := a); omega
  have s2 : ∀ a : Int, 128 ≤ a → a ≤ 2047 → szC a = 2 := fun a h h' => by have := sz_cls (lo := a); omega
  have s3 : ∀ a : Int, 2048 ≤ a → a ≤ 65535 → szC a = 3 := fun a h h' => by have := sz_cls (lo := a); omega
  have s4 : ∀ a : Int, 65536 ≤ a → szC a = 4 := fun a h => by have := sz_cls (lo := a); omega
  refine ⟨part (max lo 0) (min hi 1114111) 0 127, part (max lo 0) (min hi 1114111) 128 2047, part (max lo 0) (min hi 1114111) 2048 55295, part (max lo 0) (min hi 1114111) 57344 65535, part (max lo 0) (min hi 1114111) 65536 1114111, ?_, part_u fun a b h h1 h2 => ⟨?_, s1 a (by omega)⟩, part_u fun a b h h1 h2 => ⟨?_, s2 a h1 (by omega)⟩, part_u fun a b h h1 h2 => ⟨?_, s3 a h1 (by omega)⟩, part_u fun a b h h1 h2 => ⟨?_, s3 a (by omega) (by omega)⟩, part_u fun a b h h1 h2 => ⟨?_, s4 a h1⟩, part_few fun u v h h1 h2 => ?_, part_few fun u v h h1 h2 => ?_, part_few fun u v h h1 h2 => ?_, part_few fun u v h h1 h2 => ?_⟩
  · unfold allP upto
    simp
  · unfold Cls; omega
  · unfold Cls; omega
  · unfold Cls; omega
  · unfold Cls; omega
  · unfold Cls; omega
  · have k : Cls u v := by unfold Cls; omega
    have := few1 h k
    exact ⟨k, by have := s2 u h1 (by omega); omega⟩
  · have k : Cls u v := by unfold Cls; omega
    have := few1 h k
    exact ⟨k, by have := s3 u h1 (by omega); omega⟩
  · have k : Cls u v := by unfold Cls; omega
    have := few1 h k
    exact ⟨k, by have := s3 u (by omega) (by omega); omega⟩
  · have k : Cls u v := by unfold Cls; omega
    exact ⟨k, (few1 h k).1⟩
theorem all_u (lo hi : Int) : ∀ r ∈ allP lo hi, ∃ s, UOk s r := by
  obtain ⟨p0, p1, p2, p3, p4, e, h0, h1, h2, h3, h4, _⟩ := all_parts lo hi
  intro r hr
  rw [e] at hr
  simp only [List.mem_append] at hr
  rcases hr with h | h | h | h | h
  · exact ⟨_, h0 r h⟩
  · exact ⟨_, h1 r h⟩
  · exact ⟨_, h2 r h⟩
  · exact ⟨_, h3 r h⟩
  · exact ⟨_, h4 r h⟩
theorem all_rowsU (lo hi : Int) : RowsU (allP lo hi) := by
  have hu := all_u lo hi
  obtain ⟨p0, p1, p2, p3, p4, e, h0, h1, h2, h3, h4, n1, n2, n3, n4⟩ := all_parts lo hi
  have cnt : ∀ d : Nat, ((allP lo hi).filter fun r => decide (d < r.length)).length = (p0.filter fun r => decide (d < r.length)).length + ((p1.filter fun r => decide (d < r.length)).length + ((p2.filter fun r => decide (d < r.length)).length + ((p3.filter fun r => decide (d < r.length)).length + (p4.filter fun r => decide (d < r.length)).length))) := fun d => by
    rw [e]
    simp only [List.filter_append, List.length_append]
  have z : ∀ {s : Int} {p : List (List (Int × Int))}, (∀ r ∈ p, UOk s r) → ∀ d : Nat, s ≤ (d : Int) → (p.filter fun r => decide (d < r.length)).length = 0 := fun {s p} h d hd => filter_none fun r hr => decide_eq_false (by have := (h r hr).2.2.2.2.1; omega)
  have b : ∀ (p : List (List (Int × Int))) (d : Nat), (p.filter fun r => decide (d < r.length)).length ≤ p.length := fun p d => List.length_filter_le ..
  refine ⟨fun r hr => ?_, fun r hr => ?_, fun r hr => ?_, fun r hr => ?_, ?_, ?_, ?_⟩
  · obtain ⟨s, h⟩ := hu r hr; exact h.1
  · obtain ⟨s, h⟩ := hu r hr; exact h.2.1
  · obtain ⟨s, h⟩ := hu r hr; exact h.2.2.1
  · obtain ⟨s, h⟩ := hu r hr; exact h.2.2.2.1
  · rw [cnt]
    have := z h0 1 (by omega)
    have := b p1 1; have := b p2 1; have := b p3 1; have := b p4 1
    omega
  · rw [cnt]
    have := z h0 2 (by omega); have := z h1 2 (by omega)
    have := b p2 2; have := b p3 2; have := b p4 2
    omega
  · rw [cnt]
    have := z h0 3 (by omega); have := z h1 3 (by omega); have := z h2 3 (by omega); have := z h3 3 (by omega)
    have := b p4 3
    omega
theorem all_ne (lo hi : Int) : ∀ r ∈ allP lo hi, r ≠ [] := fun r hr e => by
  obtain ⟨s, h⟩ := all_u lo hi r hr
  rw [e] at h
  have := h.1.1
  simp at this
/-! ### Which texts fit -/
theorem fits_fitN : ∀ {r : List (Int × Int)} {u : List Nat}, fitsR r (u.map fun c : Nat => (c : Int)) = true ↔ fitN r u
  | [], [] => by simp [fitsR, fitN]
  | [], _ :: _ => by simp [fitsR, fitN]
  | _ :: _, [] => by simp [fitsR, fitN]
  | p :: r, c :: u => by
    have ih := @fits_fitN r u
    unfold fitsR at ih ⊢
    show _ ↔ p.1 ≤ (c : Int) ∧ (c : Int) ≤ p.2 ∧ fitN r u
    rw [← ih]
    simp only [List.map_cons, List.length_cons, List.zip_cons_cons, List.all_cons, Bool.and_eq_true, beq_iff_eq, decide_eq_true_eq, List.length_map]
    constructor
    · rintro ⟨h1, ⟨h2, h3⟩, h4⟩
      exact ⟨h2, h3, by omega, h4⟩
    · rintro ⟨h1, h2, h3, h4⟩
      exact ⟨by omega, ⟨h1, h2⟩, h4⟩
/-- The bytes of a character. -/
def encN (c : Int) : List Nat := (encC c).map Int.toNat
theorem encN_cast {c : Int} (h : 0 ≤ c) : (encN c).map (fun c : Nat => (c : Int)) = encC c := by
  have k : ∀ z ∈ encC c, 0 ≤ z := by
    rcases @enc_case c with ⟨a, e⟩ | ⟨a, b, e⟩ | ⟨a, b, e⟩ | ⟨a, e⟩
    all_goals
      rw [e]
      intro z hz
      simp only [List.mem_cons, List.not_mem_nil, or_false] at hz
    · omega
    · omega
    · omega
    · omega
  unfold encN
  rw [List.map_map]
  conv => rhs; rw [← List.map_id (encC c)]
  refine List.map_congr_left fun z hz => ?_
  have := k z hz
  simp only [Function.comp, id]
  omega
theorem all_fits {lo hi c : Int} (hw : wholeB c = true) : (∃ r ∈ allP lo hi, fitN r (encN c)) ↔ lo ≤ c ∧ c ≤ hi := by
  have h1 := all_holds lo hi c hw
  have h0 := (whole_of hw).1
  have e : (∃ r ∈ allP lo hi, fitN r (encN c)) ↔ 0 < holdsR (allP lo hi) (encC c) := by
    unfold holdsR
    rw [← encN_cast h0]
    constructor
    · rintro ⟨r, hr, hf⟩
      have := List.length_pos_of_mem ((List.mem_filter (p := fun r => fitsR r ((encN c).map fun c : Nat => (c : Int)))).2 ⟨hr, fits_fitN.2 hf⟩)
      omega
    · intro h
      obtain ⟨r, hr⟩ := List.exists_mem_of_length_pos (show 0 < _ from by exact Int.ofNat_lt.1 h)
      exact ⟨r, (List.mem_filter.1 hr).1, fits_fitN.1 (List.mem_filter.1 hr).2⟩
  rw [e, h1]
  unfold inB
  split
  · rename_i h
    exact ⟨fun _ => h, fun _ => by omega⟩
  · rename_i h
    exact ⟨fun h' => by omega, fun h' => absurd h' h⟩
/-- A text that fits a row begins with no inner byte. -/
theorem fit_head {lo hi : Int} {u : List Nat} (h : ∃ r ∈ allP lo hi, fitN r u) : ∃ c t, u = c :: t ∧ (c ≤ 127 ∨ 192 ≤ c) := by
  obtain ⟨r, hr, hf⟩ := h
  obtain ⟨s, k1, k2, k3, k4, k5, k6⟩ := all_u lo hi r hr
  cases u with
  | nil =>
    have := fitN_len hf
    rw [List.length_nil] at this
    omega
  | cons c t =>
    refine ⟨c, t, rfl, ?_⟩
    have hg := fitN_get hf 0 r[0] c (List.getElem?_eq_getElem (by omega)) rfl
    by_cases h1 : r.length = 1
    · have := k6 h1 r[0] (List.getElem_mem _)
      left; omega
    · have := k3 (by omega) r[0] (List.getElem?_eq_getElem (by omega))
      right; omega
theorem encN_tail {c : Int} (_ : 0 ≤ c) : ∃ d t, encN c = d :: t ∧ ∀ x ∈ t, 128 ≤ x ∧ x ≤ 191 := by
  unfold encN
  rcases @enc_case c with ⟨a, e⟩ | ⟨a, b, e⟩ | ⟨a, b, e⟩ | ⟨a, e⟩
  all_goals
    rw [e]
    refine ⟨_, _, rfl, fun x hx => ?_⟩
    simp only [List.map_cons, List.map_nil, List.mem_cons, List.not_mem_nil, or_false] at hx
  · omega
  · omega
  · omega
end Go.Proofs.YtclahhkcbkpofaaDoor.Sp
/- A range's characters between two states: which texts are taken, how few sets are met (plain Lean). -/
namespace Go.Proofs.YtclahhkcbkpofaaDoor
open Sp
def noE : Edge := fun _ _ _ => False
theorem noE_way {E : Edge} {x y : Nat} {t : List Nat} : Way (orE E noE) x t y ↔ Way E x t y := Way.iff fun _ _ _ => ⟨fun h => h.elim id False.elim, .inl⟩
theorem noE_in (n : Nat) : InE noE n := fun _ _ _ h => h.elim
theorem orE_no {E F : Edge} {x y : Nat} {t : List Nat} : Way (orE E (orE F noE)) x t y ↔ Way (orE E F) x t y := Way.iff fun _ _ _ => ⟨fun h => h.elim .inl fun h => h.elim .inr False.elim, fun h => h.elim .inl fun h => .inr (.inl h)⟩
/-- Ways of old states, and into the midst. -/
theorem rows_way {l : List Lst} {a b : Nat} {rs : List (List (Int × Int))} (hne : ∀ r ∈ rs, r ≠ []) (ha : a < l.length) (hb : b < l.length) (hl : InE (edgeL l) l.length) {x z : Nat} {s : List Nat} (hx : x < l.length) (hz : z < l.length) :
    Way (edgeL (leadRows l a b rs)) x s z ↔ Way (orE (edgeL l) (oneE a b fun t => ∃ r ∈ rs, fitN r t)) x s z := by
  rw [← noE_way, leadRows_way rs l a b noE hne ha hb hl (noE_in _) hx hz, orE_no]
theorem rows_mid {l : List Lst} {a b : Nat} {rs : List (List (Int × Int))} (ha : a < l.length) (hb : b < l.length) (hl : InE (edgeL l) l.length) {x y : Nat} {t : List Nat} (hx : x < l.length) (hy : l.length ≤ y) :
    Way (edgeL (leadRows l a b rs)) x t y ↔ ∃ t' u, t = t' ++ u ∧ Way (edgeL (leadRows l a b rs)) x t' a ∧ midsP l.length rs u y := by
  rw [← noE_way, mids_way ha hb hl (noE_in _) hx hy]
  constructor
  · rintro ⟨t', u, h1, h2, h3⟩
    exact ⟨t', u, h1, noE_way.1 h2, h3⟩
  · rintro ⟨t', u, h1, h2, h3⟩
    exact ⟨t', u, h1, noE_way.2 h2, h3⟩
/-! ### Which states are final -/
theorem addArc_fin (l : List Lst) (x : Nat) (a : Arc3) : (addArc l x a).map (·.fin) = l.map (·.fin) := by
  apply List.ext_getElem?
  intro j
  rw [List.getElem?_map, List.getElem?_map]
  by_cases e : x = j
  · subst e
    cases h : l[x]? with
    | none =>
      rw [List.getElem?_eq_none (by rw [addArc_len]; exact List.getElem?_eq_none_iff.1 h)]
    | some s => rw [addArc_at _ h]; rfl
  · rw [addArc_ne _ e]
theorem leadRow_fin : ∀ (r : List (Int × Int)) (l : List Lst) (a b : Nat), (leadRow l a b r).map (·.fin) = l.map (·.fin) ++ List.replicate (r.length - 1) false
  | [], l, a, b => by simp [leadRow]
  | [p], l, a, b => by
    have := addArc_fin l a (p.1, p.2, (b : Int))
    simp [leadRow, this]
  | p :: q :: r, l, a, b => by
    rw [leadRow, leadRow_fin (q :: r), addArc_fin, List.map_append, List.append_assoc]
    simp only [List.length_cons, Nat.add_sub_cancel, List.map_cons, List.map_nil]
    rfl
theorem leadRows_fin : ∀ (rs : List (List (Int × Int))) (l : List Lst) (a b : Nat), (leadRows l a b rs).map (·.fin) = l.map (·.fin) ++ List.replicate (midsN rs) false
  | [], l, a, b => by simp [leadRows, midsN]
  | r :: rs, l, a, b => by
    show (leadRows (leadRow l a b r) a b rs).map (·.fin) = _
    rw [leadRows_fin rs, leadRow_fin, List.append_assoc, midsN, List.replicate_append_replicate]
theorem fin_iff {l : List Lst} {a b : Nat} {rs : List (List (Int × Int))} {z : Nat} : (∃ s, (leadRows l a b rs)[z]? = some s ∧ s.fin = true) ↔ ∃ s, l[z]? = some s ∧ s.fin = true := by
  have k : ∀ (m : List Lst), (∃ s, m[z]? = some s ∧ s.fin = true) ↔ (m.map (·.fin))[z]? = some true := fun m => by
    rw [List.getElem?_map]
    exact Option.map_eq_some_iff.symm
  rw [k, k, leadRows_fin]
  by_cases h : z < (l.map (·.fin)).length
  · rw [List.getElem?_append_left h]
  · rw [List.getElem?_append_right (by omega), List.getElem?_eq_none (l := l.map (·.fin)) (by omega), List.getElem?_replicate]
    split
    · simp
    · simp
/-! ### A state that a range leads from, and an end -/
def endS : Lst := ⟨true, [], []⟩
theorem one_way {old : Lst} {P : List Nat → Prop} {x z : Nat} {s : List Nat} (h : Way (orE (edgeL [old, endS]) (oneE 0 1 P)) x s z) : Way (edgeL [old, endS]) x s z ∨ ∃ p r, s = p ++ r ∧ P r ∧ z = 1 := by
  induction h with
  | nil x => exact .inl (.nil x)
  | @cons x y z t u h1 h2 ih =>
    rcases h1 with h1 | ⟨rfl, rfl, hp⟩
    · rcases ih with ih | ⟨p, r, rfl, hr, hz⟩
      · exact .inl (.cons h1 ih)
      · exact .inr ⟨t ++ p, r, by rw [List.append_assoc], hr, hz⟩
    · have key : ∀ {v z : Nat} {u : List Nat}, Way (orE (edgeL [old, endS]) (oneE 0 1 P)) v u z → v = 1 → u = [] ∧ z = 1 := by
        intro v z u h
        cases h with
        | nil => exact fun e => ⟨rfl, e⟩
        | cons h1 _ =>
          rintro rfl
          exfalso
          rcases h1 with ⟨s, hs, h1⟩ | ⟨h1, _⟩
          · simp at hs
            subst hs
            rcases h1 with ⟨_, h1⟩ | ⟨_, _, a, h1, _⟩
            · cases h1
            · cases h1
          · omega
      obtain ⟨rfl, rfl⟩ := key h2 rfl
      exact .inr ⟨[], t, by simp, hp, rfl⟩
/-- What the states take that a range's characters lead through: of a character's bytes. -/
theorem lead_takes {old : Lst} {lo hi c : Int} (hl : InE (edgeL [old, endS]) 2) (hw : wholeB c = true) :
    (∃ z s, (leadRows [old, endS] 0 1 (allP lo hi))[z]? = some s ∧ s.fin = true ∧ Way (edgeL (leadRows [old, endS] 0 1 (allP lo hi))) 0 (encN c) z) ↔ (∃ z s, ([old, endS] : List Lst)[z]? = some s ∧ s.fin = true ∧ Way (edgeL [old, endS]) 0 (encN c) z) ∨ (lo ≤ c ∧ c ≤ hi) := by
  have hr := all_ne lo hi
  have hz2 : ∀ {z : Nat} {s : Lst}, ([old, endS] : List Lst)[z]? = some s → z < 2 := fun h => by have := (List.getElem?_eq_some_iff.1 h).1; simpa using this
  constructor
  · rintro ⟨z, s, h1, h2, h3⟩
    obtain ⟨s0, h4, h5⟩ := fin_iff.1 ⟨s, h1, h2⟩
    rw [rows_way (l := [old, endS]) hr (by simp) (by simp) hl (by simp) (by simpa using hz2 h4)] at h3
    rcases one_way h3 with h3 | ⟨p, r, he, hf, rfl⟩
    · exact .inl ⟨z, s0, h4, h5, h3⟩
    · refine .inr ?_
      obtain ⟨d, t, ed, ht⟩ := encN_tail (whole_of hw).1
      obtain ⟨c0, t0, rfl, hc0⟩ := fit_head hf
      cases p with
      | nil =>
        rw [List.nil_append] at he
        rw [← he] at hf
        exact (all_fits hw).1 hf
      | cons p0 p =>
        exfalso
        rw [ed] at he
        injection he with _ he
        have := ht c0 (by rw [he]; simp)
        omega
  · rintro (⟨z, s, h1, h2, h3⟩ | h)
    · obtain ⟨s', h4, h5⟩ := (fin_iff (a := 0) (b := 1) (rs := allP lo hi)).2 ⟨s, h1, h2⟩
      refine ⟨z, s', h4, h5, ?_⟩
      rw [rows_way (l := [old, endS]) hr (by simp) (by simp) hl (by simp) (by simpa using hz2 h1)]
      exact h3.mono fun _ _ _ h => .inl h
    · obtain ⟨s', h4, h5⟩ := (fin_iff (l := [old, endS]) (z := 1) (a := 0) (b := 1) (rs := allP lo hi)).2 ⟨endS, rfl, rfl⟩
      refine ⟨1, s', h4, h5, ?_⟩
      rw [rows_way (l := [old, endS]) hr (by simp) (by simp) hl (by simp) (by simp)]
      exact .one (.inr ⟨rfl, rfl, (all_fits hw).2 h⟩)
open Classical in
/-- Sets that may be met. -/
noncomputable def candL (n : Nat) (rs : List (List (Int × Int))) : List (List Int) :=
  [(true, true), (true, false), (false, true), (false, false)].flatMap fun ab => (candsU rs).map fun m => setL n fun y => (y = 0 ∧ ab.1 = true) ∨ (y = 1 ∧ ab.2 = true) ∨ ∃ u, m = some u ∧ midsP 2 rs u y
open Classical in
theorem lead_few {old : Lst} {lo hi : Int} (hl : InE (edgeL [old, endS]) 2) (f : Nat) :
    ((subW (leadRows [old, endS] 0 1 (allP lo hi))).run f 0 [setL (leadRows [old, endS] 0 1 (allP lo hi)).length (Clo (leadRows [old, endS] 0 1 (allP lo hi)) fun x => x = 0)]).length ≤ 20000 := by
  have hr := all_rowsU lo hi
  generalize allP lo hi = rs at *
  have hlen := leadRows_len rs [old, endS] 0 1
  obtain ⟨L, hL⟩ : ∃ L, leadRows [old, endS] 0 1 rs = L := ⟨_, rfl⟩
  have hmid : ∀ (t : List Nat) (y : Nat), 2 ≤ y → (Way (edgeL L) 0 t y ↔ ∃ t' u, t = t' ++ u ∧ Way (edgeL L) 0 t' 0 ∧ midsP 2 rs u y) := fun t y hy => by
    rw [← hL]
    exact rows_mid (l := [old, endS]) (by simp) (by simp) hl (by simp) hy
  rw [hL]
  refine Nat.le_trans (met_few (candL L.length rs) (fun t => ?_) f) ?_
  · have hset : ∀ m : Option (List Nat), m ∈ candsU rs → (∀ y, 2 ≤ y → (Way (edgeL L) 0 t y ↔ ∃ u, m = some u ∧ midsP 2 rs u y)) → setL L.length (fun y => Way (edgeL L) 0 t y) ∈ candL L.length rs := fun m hm h => by
      unfold candL
      rw [List.mem_flatMap]
      refine ⟨(decide (Way (edgeL L) 0 t 0), decide (Way (edgeL L) 0 t 1)), ?_, List.mem_map.2 ⟨m, hm, ?_⟩⟩
      · cases decide (Way (edgeL L) 0 t 0) <;> cases decide (Way (edgeL L) 0 t 1) <;> simp
      · refine setL_congr fun y hy => ?_
        have hno : ∀ y : Nat, y < 2 → ¬ ∃ u, m = some u ∧ midsP 2 rs u y := fun y hy ⟨u, _, hu⟩ => by
          have := (midsP_in hu).1
          omega
        by_cases h2 : 2 ≤ y
        · rw [h y h2]
          constructor
          · rintro (⟨rfl, _⟩ | ⟨rfl, _⟩ | h3)
            · omega
            · omega
            · exact h3
          · exact fun h3 => .inr (.inr h3)
        · obtain rfl | rfl : y = 0 ∨ y = 1 := by omega
          · constructor
            · rintro (⟨_, h3⟩ | ⟨h3, _⟩ | h3)
              · exact of_decide_eq_true h3
              · cases h3
              · exact absurd h3 (hno 0 (by omega))
            · exact fun h3 => .inl ⟨rfl, decide_eq_true h3⟩
          · constructor
            · rintro (⟨h3, _⟩ | ⟨_, h3⟩ | h3)
              · cases h3
              · exact of_decide_eq_true h3
              · exact absurd h3 (hno 1 (by omega))
            · exact fun h3 => .inr (.inl ⟨rfl, decide_eq_true h3⟩)
    by_cases he : ∃ t' u, t = t' ++ u ∧ Shp u ∧ u.length ≤ 3 ∧ Way (edgeL L) 0 t' 0
    · obtain ⟨t', u, rfl, hs, hu3, hw⟩ := he
      have hu0 : 0 < u.length := by
        cases u with
        | nil => exact hs.elim
        | cons _ _ => simp
      refine hset (some (repU (cutsU rs u.length) u)) ?_ fun y hy => ?_
      · unfold candsU
        refine List.mem_cons_of_mem _ (List.mem_map_of_mem ?_)
        have hm := prodL_mem (cs := cutsU rs u.length) (u := u) (cutsU_len rs u.length) fun c hc => by
          unfold cutsU at hc
          obtain ⟨k, _, rfl⟩ := List.mem_map.1 hc
          exact List.mem_cons_self ..
        have h3 : u.length = 1 ∨ u.length = 2 ∨ u.length = 3 := by omega
        rw [List.mem_append, List.mem_append]
        rcases h3 with h3 | h3 | h3 <;> rw [h3] at hm ⊢
        · exact .inl (.inl hm)
        · exact .inl (.inr hm)
        · exact .inr hm
      · rw [hmid _ y hy]
        constructor
        · rintro ⟨t'', u'', h1, h2, h3⟩
          obtain ⟨h4, _⟩ := mids_shape hr (fun r h => h) h3
          obtain ⟨rfl, rfl⟩ := shape_one hs h4 h1
          exact ⟨_, rfl, (mids_rep hr.ok fun r h => h).1 h3⟩
        · rintro ⟨v, hv, h3⟩
          injection hv with hv
          rw [← hv] at h3
          exact ⟨t', u, rfl, hw, (mids_rep hr.ok fun r h => h).2 h3⟩
    · refine hset none (List.mem_cons_self ..) fun y hy => ?_
      rw [hmid _ y hy]
      constructor
      · rintro ⟨t', u, h1, h2, h3⟩
        obtain ⟨h4, h5⟩ := mids_shape hr (fun r h => h) h3
        exact absurd ⟨t', u, h1, h4, h5, h2⟩ he
      · rintro ⟨u, hu, _⟩
        cases hu
  · have h1 := candsU_len hr
    unfold candL
    rw [flat_const _ (candsU rs).length fun x => List.length_map ..]
    simp only [List.length_cons, List.length_nil]
    omega
end Go.Proofs.YtclahhkcbkpofaaDoor
/- The loops of a function's body, in their order: to prove a loop as a theorem of its own. -/
namespace Go.Proofs.YtclahhkcbkpofaaDoor
def loopsC : Code → List Code
  | .loop c => c :: loopsC c
  | .seq a b => loopsC a ++ loopsC b
  | .block _ c => loopsC c
  | .scope c => loopsC c
  | .cond _ a b => loopsC a ++ loopsC b
  | _ => []
noncomputable def loopOf (f : Func) (k : Nat) : Code := ((loopsC (f.body.getD .skip))[k]?).getD .skip
/-- A region of a function's body, by its number. -/
def regC (k : Nat) : Code → Option Code
  | .region i o d => if i == k then some (.region i o d) else none
  | .seq a b => match regC k a with
    | some c => some c
    | none => regC k b
  | .cond _ a b => match regC k a with
    | some c => some c
    | none => regC k b
  | .block _ c => regC k c
  | .loop c => regC k c
  | .scope c => regC k c
  | _ => none
noncomputable def regOf (f : Func) (k : Nat) : Code := (f.body.bind (regC k)).getD .skip
end Go.Proofs.YtclahhkcbkpofaaDoor
