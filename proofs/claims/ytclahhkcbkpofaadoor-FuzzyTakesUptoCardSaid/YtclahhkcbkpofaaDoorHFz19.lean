/- All rows of a range: how many, which characters. -/
import Derived.Test.YtclahhkcbkpofaaDoorHFz5
import Derived.Test.YtclahhkcbkpofaaDoorHFz4
import Derived.Test.YtclahhkcbkpofaaDoorHFz18
namespace Go.Proofs.YtclahhkcbkpofaaDoor.Sp
theorem part_few {lo hi x y : Int} {m : Nat} (hc : ∀ a b, a ≤ b → x ≤ a → b ≤ y → Cls a b ∧ (rowsP a b).length ≤ m) : (part lo hi x y).length ≤ m := by
  unfold part
  split
  · exact (hc _ _ ‹_› (by omega) (by omega)).2
  · simp
theorem all_len (lo hi : Int) : (allP lo hi).length ≤ 20 := by
  have s1 : ∀ a : Int, a ≤ 127 → szC a ≤ 1 := fun a h => by unfold szC; rw [if_pos (by omega)]; omega
  have s2 : ∀ a : Int, a ≤ 2047 → szC a ≤ 2 := fun a h => by have := sz_cls (lo := a); omega
  have s3 : ∀ a : Int, a ≤ 65535 → szC a ≤ 3 := fun a h => by have := sz_cls (lo := a); omega
  unfold allP
  have l0 : 0 ≤ max lo 0 := by omega
  have h0 : min hi 1114111 ≤ 1114111 := by omega
  generalize max lo 0 = a at *
  generalize min hi 1114111 = b at *
  have p0 := part_few (lo := a) (hi := b) (x := 0) (y := 127) (m := 1) (fun u v h h1 h2 => by
    have k : Cls u v := by unfold Cls; omega
    have := few1 h k
    exact ⟨k, by have := s1 u (by omega); omega⟩)
  have p1 := part_few (lo := a) (hi := b) (x := 128) (y := 2047) (m := 3) (fun u v h h1 h2 => by
    have k : Cls u v := by unfold Cls; omega
    have := few1 h k
    exact ⟨k, by have := s2 u (by omega); omega⟩)
  have p2 := part_few (lo := a) (hi := b) (x := 2048) (y := 55295) (m := 5) (fun u v h h1 h2 => by
    have k : Cls u v := by unfold Cls; omega
    have := few1 h k
    exact ⟨k, by have := s3 u (by omega); omega⟩)
  have p3 := part_few (lo := a) (hi := b) (x := 57344) (y := 65535) (m := 5) (fun u v h h1 h2 => by
    have k : Cls u v := by unfold Cls; omega
    have := few1 h k
    exact ⟨k, by have := s3 u (by omega); omega⟩)
  have p4 : (part a b 65536 1114111).length ≤ 7 := part_few (fun u v h h1 h2 => by
    have k : Cls u v := by unfold Cls; omega
    exact ⟨k, (few1 h k).1⟩)
  have key : (part a b 0 127).length = 0 ∨ (part a b 2048 55295).length = 0 ∨ (part a b 128 2047).length ≤ 1 := by
    by_cases c1 : max a 0 ≤ min b 127
    · by_cases c2 : max a 2048 ≤ min b 55295
      · refine .inr (.inr ?_)
        unfold part
        rw [if_pos (by omega), show max a 128 = 128 by omega, show min b 2047 = 2047 by omega]
        have : (rowsP 128 2047).length = 1 := few_leaf (by decide)
        omega
      · refine .inr (.inl ?_)
        unfold part
        rw [if_neg c2]
        rfl
    · refine .inl ?_
      unfold part
      rw [if_neg c1]
      rfl
  unfold upto
  simp only [List.take_succ_cons, List.take_zero, List.flatten_cons, List.flatten_nil, List.length_append, List.length_nil]
  omega
theorem part_ok {lo hi x y : Int} (hc : ∀ a b, x ≤ a → b ≤ y → Cls a b) : ∀ r ∈ part lo hi x y, rowOk r := by
  unfold part
  split
  · exact rows_ok ‹_› (hc _ _ (by omega) (by omega))
  · intro r hr; simp at hr
theorem all_ok (lo hi : Int) : ∀ r ∈ allP lo hi, rowOk r := by
  unfold allP upto
  intro r hr
  simp only [List.take_succ_cons, List.take_zero, List.flatten_cons, List.flatten_nil, List.mem_append, List.not_mem_nil, or_false] at hr
  rcases hr with h | h | h | h | h
  · exact part_ok (fun a b _ _ => by unfold Cls; omega) r h
  · exact part_ok (fun a b _ _ => by unfold Cls; omega) r h
  · exact part_ok (fun a b _ _ => by unfold Cls; omega) r h
  · exact part_ok (fun a b _ _ => by unfold Cls; omega) r h
  · exact part_ok (fun a b _ _ => by unfold Cls; omega) r h
theorem part_holds {lo hi x y c : Int} (hc : ∀ a b, x ≤ a → b ≤ y → Cls a b) : holdsR (part lo hi x y) (encC c) = inB (max lo x) (min hi y) c := by
  unfold part
  split
  · exact rows_holds ‹_› (hc _ _ (by omega) (by omega))
  · unfold inB holdsR
    rw [if_neg (by omega)]
    rfl
theorem all_holds (lo hi c : Int) (hw : wholeB c = true) : holdsR (allP lo hi) (encC c) = inB lo hi c := by
  have := whole_of hw
  unfold allP upto
  simp only [List.take_succ_cons, List.take_zero, List.flatten_cons, List.flatten_nil, holdsR_append]
  rw [part_holds (fun a b _ _ => by unfold Cls; omega), part_holds (fun a b _ _ => by unfold Cls; omega), part_holds (fun a b _ _ => by unfold Cls; omega), part_holds (fun a b _ _ => by unfold Cls; omega), part_holds (fun a b _ _ => by unfold Cls; omega)]
  have e : holdsR [] (encC c) = 0 := rfl
  rw [e]
  unfold inB
  by_cases h : lo ≤ c ∧ c ≤ hi
  · rw [if_pos h]
    repeat' split
    all_goals omega
  · rw [if_neg h, if_neg (by omega), if_neg (by omega), if_neg (by omega), if_neg (by omega), if_neg (by omega)]
    rfl
end Go.Proofs.YtclahhkcbkpofaaDoor.Sp
/- The rows of a range of characters: what they look like, which texts fit them (plain Lean). -/
namespace Go.Proofs.YtclahhkcbkpofaaDoor.Sp
/-- A row of a class. -/
def UOk (s : Int) (r : List (Int × Int)) : Prop := (1 ≤ r.length ∧ r.length ≤ 4) ∧ (∀ p ∈ r, 0 ≤ p.1 ∧ 0 ≤ p.2) ∧ (1 < r.length → ∀ p, r[0]? = some p → 192 ≤ p.1) ∧ (∀ (k : Nat) p, 0 < k → r[k]? = some p → 128 ≤ p.1 ∧ p.2 ≤ 191) ∧ ((r.length : Int) = s) ∧ (r.length = 1 → ∀ p ∈ r, p.2 ≤ 127)
theorem leaf_u {lo hi : Int} (h : lo ≤ hi) (hk : Cls lo hi) : UOk (szC lo) (leafC lo hi) := by
  have hs := sz_cls (lo := lo)
  rcases leaf_case h hk with ⟨a, b, e⟩ | ⟨a, b, e⟩ | ⟨a, b, e⟩ | ⟨a, b, e⟩
  all_goals
    rw [e]
  · refine ⟨by simp, fun p hp => ?_, fun h => by simp at h, fun k p hk hp => ?_, by simp; omega, fun _ p hp => ?_⟩
    · rw [List.mem_singleton.1 hp]; exact ⟨a, by show 0 ≤ hi; omega⟩
    · have := (List.getElem?_eq_some_iff.1 hp).1
      simp at this
      omega
    · rw [List.mem_singleton.1 hp]; exact b
  · refine ⟨by simp, fun p hp => ?_, fun _ p hp => ?_, fun k p hk hp => ?_, by simp; omega, fun h => by simp at h⟩
    · simp only [List.mem_cons, List.not_mem_nil, or_false] at hp
      rcases hp with rfl | rfl
      · constructor <;> simp only <;> omega
      · constructor <;> simp only <;> omega
    · injection hp with hp
      subst hp
      simp only
      omega
    · have hl := (List.getElem?_eq_some_iff.1 hp).1
      simp at hl
      obtain rfl : k = 1 := by omega
      injection hp with hp
      subst hp
      constructor <;> simp only <;> omega
  · refine ⟨by simp, fun p hp => ?_, fun _ p hp => ?_, fun k p hk hp => ?_, by simp; omega, fun h => by simp at h⟩
    · simp only [List.mem_cons, List.not_mem_nil, or_false] at hp
      rcases hp with rfl | rfl | rfl
      · constructor <;> simp only <;> omega
      · constructor <;> simp only <;> omega
      · constructor <;> simp only <;> omega
    · injection hp with hp
      subst hp
      simp only
      omega
    · have hl := (List.getElem?_eq_some_iff.1 hp).1
      simp at hl
      obtain rfl | rfl : k = 1 ∨ k = 2 := by omega
      all_goals
        injection hp with hp
        subst hp
        constructor <;> simp only <;> omega
  · refine ⟨by simp, fun p hp => ?_, fun _ p hp => ?_, fun k p hk hp => ?_, by simp; omega, fun h => by simp at h⟩
    · simp only [List.mem_cons, List.not_mem_nil, or_false] at hp
      rcases hp with rfl | rfl | rfl | rfl
      · constructor <;> simp only <;> omega
      · constructor <;> simp only <;> omega
      · constructor <;> simp only <;> omega
      · constructor <;> simp only <;> omega
    · injection hp with hp
      subst hp
      simp only
      omega
    · have hl := (List.getElem?_eq_some_iff.1 hp).1
      simp at hl
      obtain rfl | rfl | rfl : k = 1 ∨ k = 2 ∨ k = 3 := by omega
      all_goals
        injection hp with hp
        subst hp
        constructor <;> simp only <;> omega
theorem rows_u {lo hi : Int} (h : lo ≤ hi) (hk : Cls lo hi) : ∀ r ∈ rowsP lo hi, UOk (szC lo) r := by
  refine rows_ind (motive := fun lo hi => ∀ r ∈ rowsP lo hi, UOk (szC lo) r) ?_ ?_ lo hi h hk
  · intro lo hi c h1 hk hc h2 h3 a b r hr
    rw [rowsP_cut h1 hc, List.mem_append] at hr
    rcases hr with hr | hr
    · exact a r hr
    · have := b r hr
      rwa [sz_same hk (by omega) h3] at this
  · intro lo hi h1 hk hc r hr
    rw [rowsP_leaf hc, List.mem_singleton] at hr
    subst hr
    exact leaf_u h1 hk
theorem part_u {lo hi x y s : Int} (hc : ∀ a b, a ≤ b → x ≤ a → b ≤ y → Cls a b ∧ szC a = s) : ∀ r ∈ part lo hi x y, UOk s r := by
  unfold part
  split
  · intro r hr
    obtain ⟨k1, k2⟩ := hc _ _ ‹_› (by omega) (by omega)
    have := rows_u ‹_› k1 r hr
    rwa [k2] at this
  · intro r hr; cases hr
theorem filter_none {α : Type} {p : α → Bool} {l : List α} (h : ∀ x ∈ l, p x = false) : (l.filter p).length = 0 := by
  rw [List.filter_eq_nil_iff.2 fun x hx => by rw [h x hx]; exact Bool.false_ne_true]
  rfl
theorem all_parts (lo hi : Int) : ∃ p0 p1 p2 p3 p4 : List (List (Int × Int)), allP lo hi = p0 ++ (p1 ++ (p2 ++ (p3 ++ p4))) ∧ (∀ r ∈ p0, UOk 1 r) ∧ (∀ r ∈ p1, UOk 2 r) ∧ (∀ r ∈ p2, UOk 3 r) ∧ (∀ r ∈ p3, UOk 3 r) ∧ (∀ r ∈ p4, UOk 4 r) ∧ p1.length ≤ 3 ∧ p2.length ≤ 5 ∧ p3.length ≤ 5 ∧ p4.length ≤ 7 := by
  have s1 : ∀ a : Int, a ≤ 127 → szC a = 1 := fun a h => by have := sz_cls (lo := a); omega
  have s2 : ∀ a : Int, 128 ≤ a → a ≤ 2047 → szC a = 2 := fun a h h' => by have := sz_cls (lo := a); omega
  have s3 : ∀ a : Int, 2048 ≤ a → a ≤ 65535 → szC a = 3 := fun a h h' => by have := sz_cls (lo := a); omega
  have s4 : ∀ a : Int, 65536 ≤ a → szC a = 4 := fun a h => by have := sz_cls (lo := a); omega
  refine ⟨part (max lo 0) (min hi 1114111) 0 127, part (max lo 0) (min hi 1114111) 128 2047, part (max lo 0) (min hi 1114111) 2048 55295, part (max lo 0) (min hi 1114111) 57344 65535, part (max lo 0) (min hi 1114111) 65536 1114111, ?_, part_u fun a b h h1 h2 => ⟨?_, s1 a (by omega)⟩, part_u fun a b h h1 h2 => ⟨?_, s2 a h1 (by omega)⟩, part_u fun a b h h1 h2 => ⟨?_, s3 a h1 (by omega)⟩, part_u fun a b h h1 h2 => ⟨?_, s3 a (by omega) (by omega)⟩, part_u fun a b h h1 h2 => ⟨?_, s4 a h1⟩, part_few fun u v h h1 h2 => ?_, part_few fun u v h h1 h2 => ?_, part_few fun u v h h1 h2 => ?_, part_few fun u v h h1 h2 => ?_⟩
  · unfold allP upto
    simp
  · unfold Cls; omega
  · unfold Cls; omega
  · unfold Cls; omega
  · unfold Cls; omega
  · unfold Cls; omega
  · have k : Cls u v := by unfold Cls; omega
    have := few1 h k
    exact ⟨k, by have := s2 u h1 (by omega); omega⟩
  · have k : Cls u v := by unfold Cls; omega
    have := few1 h k
    exact ⟨k, by have := s3 u h1 (by omega); omega⟩
  · have k : Cls u v := by unfold Cls; omega
    have := few1 h k
    exact ⟨k, by have := s3 u (by omega) (by omega); omega⟩
  · have k : Cls u v := by unfold Cls; omega
    exact ⟨k, (few1 h k).1⟩
theorem all_u (lo hi : Int) : ∀ r ∈ allP lo hi, ∃ s, UOk s r := by
  obtain ⟨p0, p1, p2, p3, p4, e, h0, h1, h2, h3, h4, _⟩ := all_parts lo hi
  intro r hr
  rw [e] at hr
  simp only [List.mem_append] at hr
  rcases hr with h | h | h | h | h
  · exact ⟨_, h0 r h⟩
  · exact ⟨_, h1 r h⟩
  · exact ⟨_, h2 r h⟩
  · exact ⟨_, h3 r h⟩
  · exact ⟨_, h4 r h⟩
theorem all_rowsU (lo hi : Int) : RowsU (allP lo hi) := by
  have hu := all_u lo hi
  obtain ⟨p0, p1, p2, p3, p4, e, h0, h1, h2, h3, h4, n1, n2, n3, n4⟩ := all_parts lo hi
  have cnt : ∀ d : Nat, ((allP lo hi).filter fun r => decide (d < r.length)).length = (p0.filter fun r => decide (d < r.length)).length + ((p1.filter fun r => decide (d < r.length)).length + ((p2.filter fun r => decide (d < r.length)).length + ((p3.filter fun r => decide (d < r.length)).length + (p4.filter fun r => decide (d < r.length)).length))) := fun d => by
    rw [e]
    simp only [List.filter_append, List.length_append]
  have z : ∀ {s : Int} {p : List (List (Int × Int))}, (∀ r ∈ p, UOk s r) → ∀ d : Nat, s ≤ (d : Int) → (p.filter fun r => decide (d < r.length)).length = 0 := fun {s p} h d hd => filter_none fun r hr => decide_eq_false (by have := (h r hr).2.2.2.2.1; omega)
  have b : ∀ (p : List (List (Int × Int))) (d : Nat), (p.filter fun r => decide (d < r.length)).length ≤ p.length := fun p d => List.length_filter_le ..
  refine ⟨fun r hr => ?_, fun r hr => ?_, fun r hr => ?_, fun r hr => ?_, ?_, ?_, ?_⟩
  · obtain ⟨s, h⟩ := hu r hr; exact h.1
  · obtain ⟨s, h⟩ := hu r hr; exact h.2.1
  · obtain ⟨s, h⟩ := hu r hr; exact h.2.2.1
  · obtain ⟨s, h⟩ := hu r hr; exact h.2.2.2.1
  · rw [cnt]
    have := z h0 1 (by omega)
    have := b p1 1; have := b p2 1; have := b p3 1; have := b p4 1
    omega
  · rw [cnt]
    have := z h0 2 (by omega); have := z h1 2 (by omega)
    have := b p2 2; have := b p3 2; have := b p4 2
    omega
  · rw [cnt]
    have := z h0 3 (by omega); have := z h1 3 (by omega); have := z h2 3 (by omega); have := z h3 3 (by omega)
    have := b p4 3
    omega
theorem all_ne (lo hi : Int) : ∀ r ∈ allP lo hi, r ≠ [] := fun r hr e => by
  obtain ⟨s, h⟩ := all_u lo hi r hr
  rw [e] at h
  have := h.1.1
  simp at this
/-! ### Which texts fit -/
theorem fits_fitN : ∀ {r : List (Int × Int)} {u : List Nat}, fitsR r (u.map fun c : Nat => (c : Int)) = true ↔ fitN r u
  | [], [] => by simp [fitsR, fitN]
  | [], _ :: _ => by simp [fitsR, fitN]
  | _ :: _, [] => by simp [fitsR, fitN]
  | p :: r, c :: u => by
    have ih := @fits_fitN r u
    unfold fitsR at ih ⊢
    show _ ↔ p.1 ≤ (c : Int) ∧ (c : Int) ≤ p.2 ∧ fitN r u
    rw [← ih]
    simp only [List.map_cons, List.length_cons, List.zip_cons_cons, List.all_cons, Bool.and_eq_true, beq_iff_eq, decide_eq_true_eq, List.length_map]
    constructor
    · rintro ⟨h1, ⟨h2, h3⟩, h4⟩
      exact ⟨h2, h3, by omega, h4⟩
    · rintro ⟨h1, h2, h3, h4⟩
      exact ⟨by omega, ⟨h1, h2⟩, h4⟩
/-- The bytes of a character. -/
def encN (c : Int) : List Nat := (encC c).map Int.toNat
theorem encN_cast {c : Int} (h : 0 ≤ c) : (encN c).map (fun c : Nat => (c : Int)) = encC c := by
  have k : ∀ z ∈ encC c, 0 ≤ z := by
    rcases @enc_case c with ⟨a, e⟩ | ⟨a, b, e⟩ | ⟨a, b, e⟩ | ⟨a, e⟩
    all_goals
      rw [e]
      intro z hz
      simp only [List.mem_cons, List.not_mem_nil, or_false] at hz
    · omega
    · omega
    · omega
    · omega
  unfold encN
  rw [List.map_map]
  conv => rhs; rw [← List.map_id (encC c)]
  refine List.map_congr_left fun z hz => ?_
  have := k z hz
  simp only [Function.comp, id]
  omega
theorem all_fits {lo hi c : Int} (hw : wholeB c = true) : (∃ r ∈ allP lo hi, fitN r (encN c)) ↔ lo ≤ c ∧ c ≤ hi := by
  have h1 := all_holds lo hi c hw
  have h0 := (whole_of hw).1
  have e : (∃ r ∈ allP lo hi, fitN r (encN c)) ↔ 0 < holdsR (allP lo hi) (encC c) := by
    unfold holdsR
    rw [← encN_cast h0]
    constructor
    · rintro ⟨r, hr, hf⟩
      have := List.length_pos_of_mem ((List.mem_filter (p := fun r => fitsR r ((encN c).map fun c : Nat => (c : Int)))).2 ⟨hr, fits_fitN.2 hf⟩)
      omega
    · intro h
      obtain ⟨r, hr⟩ := List.exists_mem_of_length_pos (show 0 < _ from by exact Int.ofNat_lt.1 h)
      exact ⟨r, (List.mem_filter.1 hr).1, fits_fitN.1 (List.mem_filter.1 hr).2⟩
  rw [e, h1]
  unfold inB
  split
  · rename_i h
    exact ⟨fun _ => h, fun _ => by omega⟩
  · rename_i h
    exact ⟨fun h' => by omega, fun h' => absurd h' h⟩
end Go.Proofs.YtclahhkcbkpofaaDoor.Sp
/- Bytes as characters: a prefix code (plain Lean). -/
namespace Go.Proofs.YtclahhkcbkpofaaDoor
open Sp
set_option linter.unusedVariables false
/-- The bytes of characters. -/
def encs (l : List Int) : List Nat := l.flatMap encN
theorem encs_app (a b : List Int) : encs (a ++ b) = encs a ++ encs b := List.flatMap_append ..
theorem encs_one (c : Int) : encs [c] = encN c := by simp [encs]
/-- A character by its first byte. -/
theorem enc_head {c : Int} (hw : wholeB c = true) : (0 ≤ c ∧ c < 128 ∧ encN c = [c.toNat]) ∨ (128 ≤ c ∧ c < 2048 ∧ ∃ a b : Nat, encN c = [a, b] ∧ 192 ≤ a ∧ a < 224 ∧ 128 ≤ b ∧ b ≤ 191 ∧ c = ((a : Int) - 192) * 64 + (b - 128)) ∨
    (2048 ≤ c ∧ c < 65536 ∧ ∃ a b d : Nat, encN c = [a, b, d] ∧ 224 ≤ a ∧ a < 240 ∧ 128 ≤ b ∧ b ≤ 191 ∧ 128 ≤ d ∧ d ≤ 191 ∧ c = (((a : Int) - 224) * 64 + (b - 128)) * 64 + (d - 128)) ∨
    (65536 ≤ c ∧ c ≤ 1114111 ∧ ∃ a b d e : Nat, encN c = [a, b, d, e] ∧ 240 ≤ a ∧ a < 248 ∧ 128 ≤ b ∧ b ≤ 191 ∧ 128 ≤ d ∧ d ≤ 191 ∧ 128 ≤ e ∧ e ≤ 191 ∧ c = ((((a : Int) - 240) * 64 + (b - 128)) * 64 + (d - 128)) * 64 + (e - 128)) := by
  obtain ⟨h0, h1, _⟩ := whole_of hw
  unfold encN encC
  split
  · exact .inl ⟨h0, by omega, rfl⟩
  · split
    · exact .inr (.inl ⟨by omega, by omega, _, _, rfl, by omega, by omega, by omega, by omega, by omega⟩)
    · split
      · exact .inr (.inr (.inl ⟨by omega, by omega, _, _, _, rfl, by omega, by omega, by omega, by omega, by omega, by omega, by omega⟩))
      · exact .inr (.inr (.inr ⟨by omega, by omega, _, _, _, _, rfl, by omega, by omega, by omega, by omega, by omega, by omega, by omega, by omega, by omega⟩))
theorem enc_one {a : Nat} (h : a < 128) : encN (a : Int) = [a] := by
  unfold encN encC
  rw [if_pos (by omega)]
  rfl
theorem enc_two {a b : Nat} (h1 : 192 ≤ a) (h2 : a < 224) (h3 : 128 ≤ b) (h4 : b ≤ 191) (h5 : 128 ≤ ((a : Int) - 192) * 64 + (b - 128)) : encN (((a : Int) - 192) * 64 + (b - 128)) = [a, b] := by
  unfold encN encC
  rw [if_neg (by omega), if_pos (by omega)]
  simp only [List.map_cons, List.map_nil, List.cons.injEq, and_true]
  omega
theorem enc_three {a b d : Nat} (h1 : 224 ≤ a) (h2 : a < 240) (h3 : 128 ≤ b) (h4 : b ≤ 191) (h5 : 128 ≤ d) (h6 : d ≤ 191) (h7 : 2048 ≤ (((a : Int) - 224) * 64 + (b - 128)) * 64 + (d - 128)) : encN ((((a : Int) - 224) * 64 + (b - 128)) * 64 + (d - 128)) = [a, b, d] := by
  unfold encN encC
  rw [if_neg (by omega), if_neg (by omega), if_pos (by omega)]
  simp only [List.map_cons, List.map_nil, List.cons.injEq, and_true]
  omega
theorem enc_four {a b d e : Nat} (h1 : 240 ≤ a) (h2 : a < 248) (h3 : 128 ≤ b) (h4 : b ≤ 191) (h5 : 128 ≤ d) (h6 : d ≤ 191) (h7 : 128 ≤ e) (h8 : e ≤ 191) (h9 : 65536 ≤ ((((a : Int) - 240) * 64 + (b - 128)) * 64 + (d - 128)) * 64 + (e - 128)) : encN (((((a : Int) - 240) * 64 + (b - 128)) * 64 + (d - 128)) * 64 + (e - 128)) = [a, b, d, e] := by
  unfold encN encC
  rw [if_neg (by omega), if_neg (by omega), if_neg (by omega)]
  simp only [List.map_cons, List.map_nil, List.cons.injEq, and_true]
  omega
theorem encN_ne {c : Int} : encN c ≠ [] := fun e => by
  have h1 := (encC_len c).1
  have h2 := congrArg List.length e
  unfold encN at h2
  rw [List.length_map, List.length_nil] at h2
  omega
/-- No character's bytes begin another's. -/
theorem enc_pre {c c' : Int} (hw : wholeB c = true) (hw' : wholeB c' = true) {r r' : List Nat} (h : encN c ++ r = encN c' ++ r') : c = c' ∧ r = r' := by
  rcases enc_head hw with ⟨_, _, e⟩ | ⟨_, _, a, b, e, _, _, _, _, hc⟩ | ⟨_, _, a, b, d, e, _, _, _, _, _, _, hc⟩ | ⟨_, _, a, b, d, f, e, _, _, _, _, _, _, _, _, hc⟩ <;>
    rcases enc_head hw' with ⟨_, _, e'⟩ | ⟨_, _, a', b', e', _, _, _, _, hc'⟩ | ⟨_, _, a', b', d', e', _, _, _, _, _, _, hc'⟩ | ⟨_, _, a', b', d', f', e', _, _, _, _, _, _, _, _, hc'⟩ <;>
    rw [e, e'] at h <;> simp only [List.cons_append, List.nil_append, List.cons.injEq] at h <;>
    first
      | omega
      | (obtain ⟨rfl, rfl, rfl, rfl, h⟩ := h; exact ⟨by omega, h⟩)
      | (obtain ⟨rfl, rfl, rfl, h⟩ := h; exact ⟨by omega, h⟩)
      | (obtain ⟨rfl, rfl, h⟩ := h; exact ⟨by omega, h⟩)
      | (obtain ⟨h0, h⟩ := h; exact ⟨by omega, h⟩)
theorem encs_pre : ∀ {l1 l : List Int} {r : List Nat}, (∀ c ∈ l1, wholeB c = true) → (∀ c ∈ l, wholeB c = true) → encs l1 ++ r = encs l → ∃ l2, l = l1 ++ l2 ∧ r = encs l2
  | [], l, r, _, _, h => ⟨l, rfl, h⟩
  | c :: l1, [], r, _, _, h => by
    exfalso
    have h1 : encN c ++ (encs l1 ++ r) = [] := by rw [← List.append_assoc]; exact h
    exact encN_ne (List.append_eq_nil_iff.1 h1).1
  | c :: l1, c' :: l, r, h1, h2, h => by
    have h3 : encN c ++ (encs l1 ++ r) = encN c' ++ encs l := by rw [← List.append_assoc]; exact h
    obtain ⟨rfl, h4⟩ := enc_pre (h1 c (List.mem_cons_self ..)) (h2 c' (List.mem_cons_self ..)) h3
    obtain ⟨l2, rfl, h5⟩ := encs_pre (fun x hx => h1 x (List.mem_cons_of_mem _ hx)) (fun x hx => h2 x (List.mem_cons_of_mem _ hx)) h4
    exact ⟨l2, rfl, h5⟩
theorem encs_inj {l l' : List Int} (h1 : ∀ c ∈ l, wholeB c = true) (h2 : ∀ c ∈ l', wholeB c = true) (h : encs l = encs l') : l = l' := by
  obtain ⟨l2, e, h3⟩ := encs_pre (r := []) h1 h2 (by rw [List.append_nil]; exact h)
  cases l2 with
  | nil => rw [e, List.append_nil]
  | cons c l2 =>
    exfalso
    have h4 : encN c ++ encs l2 = [] := h3.symm
    exact encN_ne (List.append_eq_nil_iff.1 h4).1
/-- These bytes are these characters'. -/
def Dec (s : List Nat) (l : List Int) : Prop := (∀ c ∈ l, wholeB c = true) ∧ s = encs l
theorem Dec.inj {s : List Nat} {l l' : List Int} (h : Dec s l) (h' : Dec s l') : l = l' := encs_inj h.1 h'.1 (h.2.symm.trans h'.2)
theorem Dec.nil : Dec [] [] := ⟨fun c h => absurd h List.not_mem_nil, rfl⟩
/-- The character that begins a text. -/
def Fst1 (s : List Nat) (c : Int) : Prop := wholeB c = true ∧ ∃ r, s = encN c ++ r
theorem Dec.more {s1 r : List Nat} {l1 : List Int} {c : Int} (h : Dec s1 l1) (hw : wholeB c = true) : Dec (s1 ++ encN c) (l1 ++ [c]) := by
  refine ⟨fun x hx => ?_, by rw [encs_app, encs_one, h.2]⟩
  rcases List.mem_append.1 hx with hx | hx
  · exact h.1 x hx
  · rw [List.mem_singleton.1 hx]; exact hw
theorem Dec.bad {s1 r : List Nat} {l1 : List Int} (h : Dec s1 l1) (hr : r ≠ []) (hn : ∀ c, ¬ Fst1 r c) (l : List Int) : ¬ Dec (s1 ++ r) l := fun h' => by
  have h1 := h'.2
  rw [h.2] at h1
  obtain ⟨l2, rfl, h2⟩ := encs_pre h.1 h'.1 h1
  cases l2 with
  | nil => exact hr h2
  | cons c l2 => exact hn c ⟨h'.1 c (by simp), encs l2, h2⟩
end Go.Proofs.YtclahhkcbkpofaaDoor
/- A character's first byte tells how many bytes there are; texts that are one character behind another (plain Lean). -/
namespace Go.Proofs.YtclahhkcbkpofaaDoor.Sp
/-- A row's first range tells how long it is. -/
def VOk (r : List (Int × Int)) : Prop := (r.length = 1 ∧ ∀ p, r[0]? = some p → p.2 ≤ 127) ∨ (r.length = 2 ∧ ∀ p, r[0]? = some p → 192 ≤ p.1 ∧ p.2 ≤ 223) ∨ (r.length = 3 ∧ ∀ p, r[0]? = some p → 224 ≤ p.1 ∧ p.2 ≤ 239) ∨ (r.length = 4 ∧ ∀ p, r[0]? = some p → 240 ≤ p.1)
theorem leaf_v {lo hi : Int} (h : lo ≤ hi) (hk : Cls lo hi) : VOk (leafC lo hi) := by
  rcases leaf_case h hk with ⟨a, b, e⟩ | ⟨a, b, e⟩ | ⟨a, b, e⟩ | ⟨a, b, e⟩ <;> rw [e]
  · exact .inl ⟨rfl, fun p hp => by injection hp with hp; subst hp; simp only; omega⟩
  · exact .inr (.inl ⟨rfl, fun p hp => by injection hp with hp; subst hp; simp only; omega⟩)
  · exact .inr (.inr (.inl ⟨rfl, fun p hp => by injection hp with hp; subst hp; simp only; omega⟩))
  · exact .inr (.inr (.inr ⟨rfl, fun p hp => by injection hp with hp; subst hp; simp only; omega⟩))
theorem rows_v {lo hi : Int} (h : lo ≤ hi) (hk : Cls lo hi) : ∀ r ∈ rowsP lo hi, VOk r := by
  refine rows_ind (motive := fun lo hi => ∀ r ∈ rowsP lo hi, VOk r) ?_ ?_ lo hi h hk
  · intro lo hi c h1 hk hc h2 h3 a b r hr
    rw [rowsP_cut h1 hc, List.mem_append] at hr
    exact hr.elim (a r) (b r)
  · intro lo hi h1 hk hc r hr
    rw [rowsP_leaf hc, List.mem_singleton] at hr
    subst hr
    exact leaf_v h1 hk
theorem part_v {lo hi x y : Int} (hc : ∀ a b, x ≤ a → b ≤ y → Cls a b) : ∀ r ∈ part lo hi x y, VOk r := by
  unfold part
  split
  · intro r hr
    exact rows_v ‹_› (hc _ _ (by omega) (by omega)) r hr
  · intro r hr; cases hr
theorem all_parts0 (lo hi : Int) : allP lo hi = part (max lo 0) (min hi 1114111) 0 127 ++ (part (max lo 0) (min hi 1114111) 128 2047 ++ (part (max lo 0) (min hi 1114111) 2048 55295 ++ (part (max lo 0) (min hi 1114111) 57344 65535 ++ part (max lo 0) (min hi 1114111) 65536 1114111))) := by
  unfold allP upto
  simp
theorem all_v (lo hi : Int) : ∀ r ∈ allP lo hi, VOk r := by
  intro r hr
  rw [all_parts0] at hr
  simp only [List.mem_append] at hr
  rcases hr with h | h | h | h | h
  · exact part_v (fun a b h1 h2 => by unfold Cls; omega) r h
  · exact part_v (fun a b h1 h2 => by unfold Cls; omega) r h
  · exact part_v (fun a b h1 h2 => by unfold Cls; omega) r h
  · exact part_v (fun a b h1 h2 => by unfold Cls; omega) r h
  · exact part_v (fun a b h1 h2 => by unfold Cls; omega) r h
/-- One character's range has one row at most. -/
theorem all_one (c : Int) : (allP c c).length ≤ 1 := by
  have k : ∀ c : Int, rowsP c c = [leafC c c] := fun c => rowsP_leaf (by
    unfold cutC
    simp)
  have p : ∀ x y : Int, (part (max c 0) (min c 1114111) x y).length = if x ≤ c ∧ c ≤ y ∧ 0 ≤ c ∧ c ≤ 1114111 then 1 else 0 := fun x y => by
    unfold part
    split
    · rename_i h
      rw [show max (max c 0) x = c by omega, show min (min c 1114111) y = c by omega, k, if_pos (by omega)]
      rfl
    · rw [if_neg (by omega)]
      rfl
  rw [all_parts0]
  simp only [List.length_append, p]
  repeat' split
  all_goals omega
end Go.Proofs.YtclahhkcbkpofaaDoor.Sp
namespace Go.Proofs.YtclahhkcbkpofaaDoor
open Sp
/-- How many bytes a first byte wants. -/
def szN (b : Nat) : Nat := if b < 192 then 1 else if b < 224 then 2 else if b < 240 then 3 else 4
def Seg (u : List Nat) : Prop := ∃ b t, u = b :: t ∧ (b :: t).length = szN b
def Prt (u : List Nat) : Prop := ∃ b t, u = b :: t ∧ (b :: t).length < szN b
theorem vok_sz {r : List (Int × Int)} (h : VOk r) {p : Int × Int} {b : Nat} (hp : r[0]? = some p) (h1 : p.1 ≤ (b : Int)) (h2 : (b : Int) ≤ p.2) : r.length = szN b := by
  unfold szN
  rcases h with ⟨e, k⟩ | ⟨e, k⟩ | ⟨e, k⟩ | ⟨e, k⟩ <;> have := k p hp <;> rw [e]
  · rw [if_pos (by omega)]
  · rw [if_neg (by omega), if_pos (by omega)]
  · rw [if_neg (by omega), if_neg (by omega), if_pos (by omega)]
  · rw [if_neg (by omega), if_neg (by omega), if_neg (by omega)]
theorem fit_seg {lo hi : Int} {r : List (Int × Int)} (hr : r ∈ allP lo hi) {u : List Nat} (hf : fitN r u) : Seg u := by
  have hl := fitN_len hf
  cases r with
  | nil => exact absurd rfl (all_ne lo hi _ hr)
  | cons p r =>
    cases u with
    | nil => exact hf.elim
    | cons b t => exact ⟨b, t, rfl, by rw [← hl]; exact vok_sz (all_v lo hi _ hr) (p := p) rfl hf.1 hf.2.1⟩
theorem enc_seg {c : Int} (hw : wholeB c = true) : Seg (encN c) := by
  rcases enc_head hw with ⟨_, _, e⟩ | ⟨_, _, a, b, e, _⟩ | ⟨_, _, a, b, d, e, _⟩ | ⟨_, _, a, b, d, f, e, _⟩ <;> rw [e] <;> refine ⟨_, _, rfl, ?_⟩ <;> unfold szN
  · rw [if_pos (by omega)]; rfl
  · rw [if_neg (by omega), if_pos (by omega)]; rfl
  · rw [if_neg (by omega), if_neg (by omega), if_pos (by omega)]; rfl
  · rw [if_neg (by omega), if_neg (by omega), if_neg (by omega)]; rfl
theorem mid_prt {lo hi : Int} {u : List Nat} {y : Nat} : ∀ {rs' : List (List (Int × Int))} {N : Nat}, (∀ r ∈ rs', r ∈ allP lo hi) → midsP N rs' u y → Prt u
  | [], _, _, h => h.elim
  | r :: rs', N, hs, h => by
    rcases h with ⟨h1, h2, _, h4⟩ | h
    · have hrm := hs r (List.mem_cons_self ..)
      cases u with
      | nil => simp at h1
      | cons b t =>
        cases r with
        | nil => simp at h2
        | cons p r =>
          have h5 : fitN (p :: r.take t.length) (b :: t) := h4
          refine ⟨b, t, rfl, ?_⟩
          rw [← vok_sz (all_v lo hi _ hrm) (p := p) (b := b) rfl h5.1 h5.2.1]
          exact h2
    · exact mid_prt (fun r h => hs r (List.mem_cons_of_mem _ h)) h
theorem seg_eq {u v a b : List Nat} (hu : Seg u) (hv : Seg v) (h : u ++ a = v ++ b) : u = v ∧ a = b := by
  obtain ⟨x, t, rfl, h1⟩ := hu
  obtain ⟨y, s, rfl, h2⟩ := hv
  have e : x = y := by
    simp only [List.cons_append] at h
    injection h
  subst e
  exact List.append_inj h (h1.trans h2.symm)
theorem seg_prt {u a v : List Nat} (hu : Seg u) (hv : Prt v) (h : u ++ a = v) : False := by
  obtain ⟨x, t, rfl, h1⟩ := hu
  obtain ⟨y, s, rfl, h2⟩ := hv
  have e : x = y := by
    simp only [List.cons_append] at h
    injection h
  subst e
  have := congrArg List.length h
  rw [List.length_append] at this
  omega
theorem seg_ne {u : List Nat} (h : Seg u) : u ≠ [] := by
  obtain ⟨b, t, rfl, _⟩ := h
  simp
theorem prt_ne {u : List Nat} (h : Prt u) : u ≠ [] := by
  obtain ⟨b, t, rfl, _⟩ := h
  simp
/-! ### One character behind another -/
abbrev Rowss := List (List (List (Int × Int)))
/-- Rows of ranges, each of characters. -/
def OkR (rss : Rowss) : Prop := ∀ rs ∈ rss, ∃ lo hi, rs = allP lo hi
theorem OkR.head {rs : List (List (Int × Int))} {rss : Rowss} (h : OkR (rs :: rss)) : ∃ lo hi, rs = allP lo hi := h rs (List.mem_cons_self ..)
theorem OkR.tail {rs : List (List (Int × Int))} {rss : Rowss} (h : OkR (rs :: rss)) : OkR rss := fun x hx => h x (List.mem_cons_of_mem _ hx)
end Go.Proofs.YtclahhkcbkpofaaDoor
