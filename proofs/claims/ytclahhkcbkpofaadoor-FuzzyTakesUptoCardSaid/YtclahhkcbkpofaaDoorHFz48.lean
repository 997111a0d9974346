/- Fuzzy's refusals, and the reference's May. -/
import Derived.Test.YtclahhkcbkpofaaDoorHFz45
import Derived.Test.YtclahhkcbkpofaaDoorHFz47
import Derived.Test.YtclahhkcbkpofaaDoorHFz46
import Derived.Test.YtclahhkcbkpofaaDoorHFz22
import Derived.Test.YtclahhkcbkpofaaDoorHFz9
import Derived.Test.YtclahhkcbkpofaaDoorHFz1
import Derived.Test.YtclahhkcbkpofaaDoorHFz19
namespace Go.Proofs.YtclahhkcbkpofaaDoor
open Go.RowKit
open Sp
set_option linter.unusedVariables false
/-- Why a word with edits is refused. -/
def FzE (t : List UInt8) (E X z : Int) : Prop := (∃ l, Dec (bytesN t) l ∧ letsE (l.map foldI) [] = z ∧ z ≠ 0) ∨ (z = 7 ∧ ∀ l, ¬ Dec (bytesN t) l) ∨ (z = 1 ∧ ∃ l, Dec (bytesN t) l ∧ letsE (l.map foldI) [] = 0 ∧ ¬ (0 ≤ E ∧ E ≤ 2 ∧ 0 ≤ X ∧ X ≤ (l.length : Int)))
theorem FzE.one {t : List UInt8} {E X z z' : Int} (h : FzE t E X z) (h' : FzE t E X z') : z = z' := by
  rcases h with ⟨l, h1, h2, h3⟩ | ⟨h1, h2⟩ | ⟨h1, l, h2, h3, h4⟩ <;> rcases h' with ⟨l', k1, k2, k3⟩ | ⟨k1, k2⟩ | ⟨k1, l', k2, k3, k4⟩
  · rw [h1.inj k1] at h2; exact h2.symm.trans k2
  · exact absurd h1 (k2 l)
  · rw [h1.inj k2] at h2; exact absurd (h2.symm.trans k3) h3
  · exact absurd k1 (h2 l')
  · rw [h1, k1]
  · exact absurd k2 (h2 l')
  · rw [← h2.inj k1] at k2; exact absurd (k2.symm.trans h3) k3
  · exact absurd h2 (k2 l)
  · rw [h1, k1]
theorem FzE.no {t : List UInt8} {E X z : Int} (h : FzE t E X z) {l : List Int} (hd : Dec (bytesN t) l) (hl : letsE (l.map foldI) [] = 0) (hb : 0 ≤ E ∧ E ≤ 2 ∧ 0 ≤ X ∧ X ≤ (l.length : Int)) : False := by
  rcases h with ⟨l', h1, h2, h3⟩ | ⟨h1, h2⟩ | ⟨h1, l', h2, h3, h4⟩
  · rw [h1.inj hd] at h2; exact h3 (h2.symm.trans hl)
  · exact h2 l hd
  · rw [h2.inj hd] at h4; exact h4 hb
/-- What May answers. -/
def MayR (w : World) (t : List UInt8) (E X : Int) : Ending → World → Prop := fun e w' => Below w.heap.size w w' ∧
  ((∃ v l, e = .returned (.tuple #[v, .int .i64 0]) ∧ Dec (bytesN t) l ∧ letsE (l.map foldI) [] = 0 ∧ (0 ≤ E ∧ E ≤ 2 ∧ 0 ≤ X ∧ X ≤ (l.length : Int)) ∧ w'.ownsRow w.heap.size 3 1 v l.length ((l.map foldI).map (.int .i64))) ∨
   (∃ z, e = .returned (.tuple #[.slice none 0 0, .int .i64 z]) ∧ z ≠ 0 ∧ FzE t E X z))
set_option maxRecDepth 100000 in
set_option maxHeartbeats 8000000 in
theorem fmay_any (w : World) (t : List UInt8) (ht : t.length ≤ 17592186044414) (E X : Int) : Calls Tryd.prog 25 #[.string ⟨t.toArray⟩, .int .i64 E, .int .i64 X] w (MayR w t E X) := by
  have HD := Lib.hid (rletters_any w t [] ht (by simp))
  go_enter Tryd.func25, Tryd.ntmps25
  go_wp2_with fail
  refine HD.out.mono ?_
  rintro e w1 ⟨hb1, ⟨v, l, rfl, hd, hl, ho⟩ | ⟨l, z, rfl, hz, hd, hl⟩ | ⟨rfl, hno⟩⟩
  · obtain ⟨A, cp, rfl, hcp⟩ := own_shape ho
    have HB1 := Lib.hid hb1
    have HD1 := Lib.hid hd
    have HL1 := Lib.hid hl
    have HO1 := Lib.hid ho
    have hz16 := (lets_zero hl).1
    rw [List.length_map] at hz16
    obtain ⟨n, hn⟩ : ∃ n, l.length = n := ⟨_, rfl⟩
    have HN := Lib.hid hn
    rw [hn] at hz16 hcp ⊢
    clear hb1 hd hl ho hn
    by_cases b0 : E < 0
    · have r0 : decide (E < 0) = true := decide_eq_true b0
      have HF : Hid (FzE t E X 1) := .inr (.inr ⟨rfl, l, HD1.out, HL1.out, by rw [HN.out]; omega⟩)
      go_wp2_with fail
      go_ret2
      exact ⟨HB1.out, .inr ⟨1, rfl, by decide, HF.out⟩⟩
    by_cases b1 : 2 < E
    · have r0 : decide (E < 0) = false := decide_eq_false b0
      have r1 : decide (2 < E) = true := decide_eq_true b1
      have HF : Hid (FzE t E X 1) := .inr (.inr ⟨rfl, l, HD1.out, HL1.out, by rw [HN.out]; omega⟩)
      go_wp2_with fail
      go_ret2
      exact ⟨HB1.out, .inr ⟨1, rfl, by decide, HF.out⟩⟩
    by_cases b2 : X < 0
    · have r0 : decide (E < 0) = false := decide_eq_false b0
      have r1 : decide (2 < E) = false := decide_eq_false b1
      have r2 : decide (X < 0) = true := decide_eq_true b2
      have HF : Hid (FzE t E X 1) := .inr (.inr ⟨rfl, l, HD1.out, HL1.out, by rw [HN.out]; omega⟩)
      go_wp2_with fail
      go_ret2
      exact ⟨HB1.out, .inr ⟨1, rfl, by decide, HF.out⟩⟩
    by_cases b3 : (n : Int) < X
    · have r0 : decide (E < 0) = false := decide_eq_false b0
      have r1 : decide (2 < E) = false := decide_eq_false b1
      have r2 : decide (X < 0) = false := decide_eq_false b2
      have r3 : decide ((n : Int) < X) = true := decide_eq_true b3
      have HF : Hid (FzE t E X 1) := .inr (.inr ⟨rfl, l, HD1.out, HL1.out, by rw [HN.out]; omega⟩)
      go_wp2_with fail
      go_ret2
      exact ⟨HB1.out, .inr ⟨1, rfl, by decide, HF.out⟩⟩
    have r0 : decide (E < 0) = false := decide_eq_false b0
    have r1 : decide (2 < E) = false := decide_eq_false b1
    have r2 : decide (X < 0) = false := decide_eq_false b2
    have r3 : decide ((n : Int) < X) = false := decide_eq_false b3
    have HOK : Hid (0 ≤ E ∧ E ≤ 2 ∧ 0 ≤ X ∧ X ≤ (l.length : Int)) := by show _ ∧ _ ∧ _ ∧ _; rw [HN.out]; omega
    go_wp2_with fail
    go_ret2
    exact ⟨HB1.out, .inl ⟨_, l, rfl, HD1.out, HL1.out, HOK.out, by rw [HN.out]; have h := HO1.out; rw [HN.out] at h; exact h⟩⟩
  · have HB1 := Lib.hid hb1
    have q0 : (z == 0) = false := by rw [beq_eq_false_iff_ne]; exact hz
    have HZ := Lib.hid hz
    have HF : Hid (FzE t E X z) := .inl ⟨l, hd, hl, hz⟩
    clear hb1 hd hl hz
    go_wp2_with fail
    go_ret2
    exact ⟨HB1.out, .inr ⟨z, rfl, HZ.out, HF.out⟩⟩
  · have HB1 := Lib.hid hb1
    have HF : Hid (FzE t E X 7) := .inr (.inl ⟨rfl, hno⟩)
    clear hb1 hno
    go_wp2_with fail
    go_ret2
    exact ⟨HB1.out, .inr ⟨7, rfl, by decide, HF.out⟩⟩
set_option maxRecDepth 100000 in
set_option maxHeartbeats 8000000 in
/-- Fuzzy refuses. -/
theorem fuzzy_bad (w : World) (t : List UInt8) (ht : t.length ≤ 17592186044414) (E X z : Int) (hz : FzE t E X z) : Calls Tryd.prog 24 #[.string ⟨t.toArray⟩, .int .i64 E, .int .i64 X] w fun e w' => Below w.heap.size w w' ∧ e = .returned (.tuple #[.slice none 0 0, .int .i64 z]) := by
  have HD := Lib.hid (letters_any w t [] ht (by simp))
  have HZZ := Lib.hid hz
  clear hz
  go_enter Tryd.func24, Tryd.ntmps24
  go_wp2_with fail
  refine HD.out.mono ?_
  rintro e w1 ⟨hb1, ⟨v, l, rfl, hd, hl, ho⟩ | ⟨l, y, rfl, hy, hd, hl⟩ | ⟨rfl, hno⟩⟩
  · obtain ⟨A, cp, rfl, hcp⟩ := own_shape ho
    have HB1 := Lib.hid hb1
    have HD1 := Lib.hid hd
    have HL1 := Lib.hid hl
    have hz16 := (lets_zero hl).1
    rw [List.length_map] at hz16
    obtain ⟨n, hn⟩ : ∃ n, l.length = n := ⟨_, rfl⟩
    have HN := Lib.hid hn
    rw [hn] at hz16 hcp ⊢
    clear hb1 hd hl ho hn
    by_cases b0 : E < 0
    · have r0 : decide (E < 0) = true := decide_eq_true b0
      obtain rfl : z = 1 := HZZ.out.one (.inr (.inr ⟨rfl, l, HD1.out, HL1.out, by rw [HN.out]; omega⟩))
      go_wp2_with fail
      go_ret2
      exact ⟨HB1.out, rfl⟩
    by_cases b1 : 2 < E
    · have r0 : decide (E < 0) = false := decide_eq_false b0
      have r1 : decide (2 < E) = true := decide_eq_true b1
      obtain rfl : z = 1 := HZZ.out.one (.inr (.inr ⟨rfl, l, HD1.out, HL1.out, by rw [HN.out]; omega⟩))
      go_wp2_with fail
      go_ret2
      exact ⟨HB1.out, rfl⟩
    by_cases b2 : X < 0
    · have r0 : decide (E < 0) = false := decide_eq_false b0
      have r1 : decide (2 < E) = false := decide_eq_false b1
      have r2 : decide (X < 0) = true := decide_eq_true b2
      obtain rfl : z = 1 := HZZ.out.one (.inr (.inr ⟨rfl, l, HD1.out, HL1.out, by rw [HN.out]; omega⟩))
      go_wp2_with fail
      go_ret2
      exact ⟨HB1.out, rfl⟩
    by_cases b3 : (n : Int) < X
    · have r0 : decide (E < 0) = false := decide_eq_false b0
      have r1 : decide (2 < E) = false := decide_eq_false b1
      have r2 : decide (X < 0) = false := decide_eq_false b2
      have r3 : decide ((n : Int) < X) = true := decide_eq_true b3
      obtain rfl : z = 1 := HZZ.out.one (.inr (.inr ⟨rfl, l, HD1.out, HL1.out, by rw [HN.out]; omega⟩))
      go_wp2_with fail
      go_ret2
      exact ⟨HB1.out, rfl⟩
    have r0 : decide (E < 0) = false := decide_eq_false b0
    have r1 : decide (2 < E) = false := decide_eq_false b1
    have r2 : decide (X < 0) = false := decide_eq_false b2
    have r3 : decide ((n : Int) < X) = false := decide_eq_false b3
    exact (HZZ.out.no HD1.out HL1.out (by rw [HN.out]; omega)).elim
  · have HB1 := Lib.hid hb1
    have q0 : (y == 0) = false := by rw [beq_eq_false_iff_ne]; exact hy
    obtain rfl : z = y := HZZ.out.one (.inl ⟨l, hd, hl, hy⟩)
    clear hb1 hd hl hy
    go_wp2_with fail
    go_ret2
    exact ⟨HB1.out, rfl⟩
  · have HB1 := Lib.hid hb1
    obtain rfl : z = 7 := HZZ.out.one (.inr (.inl ⟨rfl, hno⟩))
    clear hb1 hno
    go_wp2_with fail
    go_ret2
    exact ⟨HB1.out, rfl⟩
end Go.Proofs.YtclahhkcbkpofaaDoor
/- A word with edits: texts by how many edits, and the automaton's ways (plain Lean). -/
namespace Go.Proofs.YtclahhkcbkpofaaDoor
open Sp
/-- A text made of a word by just so many edits; a letter may be put in its own place. -/
inductive Ex : List Int → List Int → Nat → Prop
  | nil : Ex [] [] 0
  | del {x : Int} {a b : List Int} {n : Nat} (h : Ex a b n) : Ex (x :: a) b (n + 1)
  | ins {y : Int} {a b : List Int} {n : Nat} (h : Ex a b n) : Ex a (y :: b) (n + 1)
  | eq {x : Int} {a b : List Int} {n : Nat} (h : Ex a b n) : Ex (x :: a) (x :: b) n
  | sub {x y : Int} {a b : List Int} {n : Nat} (h : Ex a b n) : Ex (x :: a) (y :: b) (n + 1)
theorem Al.ex {a b : List Int} {n : Nat} (h : Al a b n) : Ex a b n := by
  induction h with
  | nil => exact .nil
  | del _ ih => exact .del ih
  | ins _ ih => exact .ins ih
  | @sub x y a b n _ ih =>
    by_cases e : x = y
    · subst e
      rw [if_pos rfl]
      exact .eq ih
    · rw [if_neg e]
      exact .sub ih
theorem Ex.least {a b : List Int} {n : Nat} (h : Ex a b n) : lev a b ≤ n := by
  induction h with
  | nil => rw [lev_nil]; exact Nat.le_refl _
  | @del x a b n _ ih => have := lev_del x a b; omega
  | @ins y a b n _ ih => have := lev_ins y a b; omega
  | @eq x a b n _ ih => rw [lev_cons, if_pos rfl]; omega
  | @sub x y a b n _ ih => rw [lev_cons]; split <;> omega
theorem ex_lev (a b : List Int) : Ex a b (lev a b) := (lev_al a b).ex
theorem Ex.most {a b : List Int} {n : Nat} (h : Ex a b n) : n ≤ a.length + b.length := by
  induction h with
  | nil => exact Nat.le_refl _
  | del _ ih => rw [List.length_cons]; omega
  | ins _ ih => rw [List.length_cons]; omega
  | eq _ ih => rw [List.length_cons, List.length_cons]; omega
  | sub _ ih => rw [List.length_cons, List.length_cons]; omega
theorem ex_nil {b : List Int} {k : Nat} (h : Ex [] b k) : k = b.length := by
  have h1 := h.least
  have h2 := h.most
  rw [lev_nil] at h1
  simp at h2
  omega
theorem ex_nil2 {a : List Int} {k : Nat} (h : Ex a [] k) : k = a.length := by
  have h1 := h.least
  have h2 := h.most
  rw [lev_nil2] at h1
  simp at h2
  omega
theorem Ex.up {a b : List Int} {k : Nat} (h : Ex a b k) : a ≠ [] → b ≠ [] → k < a.length + b.length → Ex a b (k + 1) := by
  induction h with
  | nil => exact fun h => absurd rfl h
  | @del x a b n h ih =>
    intro _ hb hk
    rw [List.length_cons] at hk
    by_cases ha : a = []
    · subst ha
      have := ex_nil h
      simp at hk
      omega
    · exact .del (ih ha hb (by omega))
  | @ins y a b n h ih =>
    intro ha _ hk
    rw [List.length_cons] at hk
    by_cases hb : b = []
    · subst hb
      have := ex_nil2 h
      simp at hk
      omega
    · exact .ins (ih ha hb (by omega))
  | eq h _ => exact fun _ _ _ => .sub h
  | sub h _ => exact fun _ _ _ => .del (.ins h)
/-- How many edits may be made. -/
theorem ex_iff {a b : List Int} {k : Nat} (hk : k ≤ 2) : Ex a b k ↔ lev a b ≤ k ∧ (a = [] ∨ b = [] → k = lev a b) := by
  constructor
  · intro h
    refine ⟨h.least, ?_⟩
    rintro (rfl | rfl)
    · rw [lev_nil]; exact ex_nil h
    · rw [lev_nil2]; exact ex_nil2 h
  · rintro ⟨h1, h2⟩
    by_cases e : a = [] ∨ b = []
    · rw [h2 e]; exact ex_lev a b
    · have ha : a ≠ [] := fun h => e (.inl h)
      have hb : b ≠ [] := fun h => e (.inr h)
      have l1 := List.length_pos_iff.2 ha
      have l2 := List.length_pos_iff.2 hb
      have key : ∀ d, lev a b + d ≤ 2 → Ex a b (lev a b + d) := fun d => by
        induction d with
        | zero => exact fun _ => ex_lev a b
        | succ d ih => exact fun hd => (ih (by omega)).up ha hb (by omega)
      have := key (k - lev a b) (by omega)
      rwa [show lev a b + (k - lev a b) = k by omega] at this
/-! ### The automaton's ways -/
/-- From a place to a place, by so many edits. -/
inductive Fw (f : List Int) (X : Nat) : Nat → List Int → Nat → Nat → Prop
  | nil (i : Nat) : Fw f X i [] i 0
  | eq {i j n : Nat} {c : Int} {u : List Int} (h : f[i]? = some c) (r : Fw f X (i + 1) u j n) : Fw f X i (c :: u) j n
  | put {i j n : Nat} {c : Int} {u : List Int} (h : X ≤ i) (r : Fw f X i u j n) : Fw f X i (c :: u) j (n + 1)
  | sub {i j n : Nat} {c : Int} {u : List Int} (h : X ≤ i) (hi : i < f.length) (r : Fw f X (i + 1) u j n) : Fw f X i (c :: u) j (n + 1)
  | skip {i j n : Nat} {u : List Int} (h : X ≤ i) (hi : i < f.length) (r : Fw f X (i + 1) u j n) : Fw f X i u j (n + 1)
theorem Fw.le {f : List Int} {X i j n : Nat} {u : List Int} (h : Fw f X i u j n) (hi : i ≤ f.length) : i ≤ j ∧ j ≤ f.length := by
  induction h with
  | nil => exact ⟨Nat.le_refl _, hi⟩
  | eq h _ ih =>
    have h1 := (List.getElem?_eq_some_iff.1 h).1
    have := ih (by omega)
    omega
  | put _ _ ih => exact ih hi
  | sub _ h _ ih => have := ih (by omega); omega
  | skip _ h _ ih => have := ih (by omega); omega
theorem drop_at {f : List Int} {i : Nat} (hi : i < f.length) : f.drop i = f[i] :: f.drop (i + 1) := List.drop_eq_getElem_cons hi
theorem cut_step {f : List Int} {i j : Nat} (hi : i < f.length) (hj : i + 1 ≤ j) : (f.drop i).take (j - i) = f[i] :: (f.drop (i + 1)).take (j - (i + 1)) := by
  rw [drop_at hi, show j - i = (j - (i + 1)) + 1 by omega, List.take_succ_cons]
/-- Behind the head: the edits. -/
theorem fw_ex {f : List Int} {X i j n : Nat} {u : List Int} (hX : X ≤ i) (hi : i ≤ f.length) : Fw f X i u j n ↔ i ≤ j ∧ j ≤ f.length ∧ Ex u ((f.drop i).take (j - i)) n := by
  constructor
  · intro h
    have hle := h.le hi
    refine ⟨hle.1, hle.2, ?_⟩
    induction h with
    | nil i => rw [Nat.sub_self, List.take_zero]; exact .nil
    | @eq i j n c u h r ih =>
      have h1 := (List.getElem?_eq_some_iff.1 h)
      obtain ⟨h1, h2⟩ := h1
      have h3 := r.le (by omega)
      rw [cut_step h1 h3.1, h2]
      exact .eq (ih (by omega) (by omega) h3)
    | put _ r ih => exact .del (ih hX hi hle)
    | @sub i j n c u _ h1 r ih =>
      have h3 := r.le (by omega)
      rw [cut_step h1 h3.1]
      exact .sub (ih (by omega) (by omega) h3)
    | @skip i j n u _ h1 r ih =>
      have h3 := r.le (by omega)
      rw [cut_step h1 h3.1]
      exact .ins (ih (by omega) (by omega) h3)
  · rintro ⟨h1, h2, h⟩
    obtain ⟨b, hb⟩ : ∃ b, (f.drop i).take (j - i) = b := ⟨_, rfl⟩
    rw [hb] at h
    induction h generalizing i with
    | nil =>
      have h3 := congrArg List.length hb
      rw [List.length_take, List.length_drop, List.length_nil] at h3
      obtain rfl : i = j := by omega
      exact .nil i
    | del _ ih => exact .put hX (ih hX hi h1 hb)
    | @ins y a b n _ ih =>
      have h3 := congrArg List.length hb
      rw [List.length_take, List.length_drop, List.length_cons] at h3
      rw [cut_step (by omega) (by omega)] at hb
      injection hb with _ hb
      exact .skip hX (by omega) (ih (by omega) (by omega) (by omega) hb)
    | @eq x a b n _ ih =>
      have h3 := congrArg List.length hb
      rw [List.length_take, List.length_drop, List.length_cons] at h3
      rw [cut_step (by omega) (by omega)] at hb
      injection hb with h4 hb
      exact .eq (by rw [List.getElem?_eq_getElem (by omega), h4]) (ih (by omega) (by omega) (by omega) hb)
    | @sub x y a b n _ ih =>
      have h3 := congrArg List.length hb
      rw [List.length_take, List.length_drop, List.length_cons] at h3
      rw [cut_step (by omega) (by omega)] at hb
      injection hb with _ hb
      exact .sub hX (by omega) (ih (by omega) (by omega) (by omega) hb)
end Go.Proofs.YtclahhkcbkpofaaDoor
/- A word's automaton: its ways by characters are its edits (plain Lean). -/
namespace Go.Proofs.YtclahhkcbkpofaaDoor
open Sp
/-- The state of a place and of so many edits. -/
def atS (E i k : Nat) : Nat := i * (E + 1) + k
theorem atS_inj {E i k i' k' : Nat} (hk : k ≤ E) (hk' : k' ≤ E) (h : atS E i k = atS E i' k') : i = i' ∧ k = k' := by
  unfold atS at h
  have h1 := div_at (i := i) hk
  have h2 := mod_at (i := i) hk
  rw [h, div_at hk'] at h1
  rw [h, mod_at hk'] at h2
  exact ⟨h1.symm, h2.symm⟩
theorem atS_split {E n x : Nat} (h : x < (n + 1) * (E + 1)) : ∃ i k, i ≤ n ∧ k ≤ E ∧ x = atS E i k := by
  have hW : 0 < E + 1 := by omega
  have hd := Nat.div_add_mod x (E + 1)
  have hm := Nat.mod_lt x hW
  refine ⟨x / (E + 1), x % (E + 1), ?_, by omega, ?_⟩
  · have h1 : x / (E + 1) < n + 1 := Nat.div_lt_of_lt_mul (by rw [Nat.mul_comm]; exact h)
    omega
  · unfold atS
    rw [Nat.mul_comm]
    exact hd.symm
theorem atS_lt {E n i k : Nat} (hi : i ≤ n) (hk : k ≤ E) : atS E i k < (n + 1) * (E + 1) := at_lt hi hk
theorem atS_next {E i k : Nat} : atS E i k + E + 1 = atS E (i + 1) k := by
  unfold atS
  rw [Nat.add_mul, Nat.one_mul]
  omega
theorem atS_next2 {E i k : Nat} : atS E i k + E + 2 = atS E (i + 1) (k + 1) := by
  unfold atS
  rw [Nat.add_mul, Nat.one_mul]
  omega
theorem atS_up {E i k : Nat} : atS E i k + 1 = atS E i (k + 1) := by
  unfold atS
  omega
/-- The ways without a character. -/
def frF (n E X x y : Nat) : Prop := ∃ i k, x = atS E i k ∧ k < E ∧ X ≤ i ∧ i < n ∧ y = atS E (i + 1) (k + 1)
theorem fuz_edge (n E X x : Nat) (t : List Nat) (y : Nat) : edgeL (fuzL n E X ((n + 1) * (E + 1))) x t y ↔ t = [] ∧ frF n E X x y := by
  constructor
  · rintro ⟨s, hs, h⟩
    have hl := (List.getElem?_eq_some_iff.1 hs).1
    rw [fuzL_len] at hl
    obtain ⟨i, k, hi, hk, rfl⟩ := atS_split hl
    rw [fuzL_at hl, if_pos hl] at hs
    injection hs with hs
    have e : fuzSt n E X (atS E i k) = _ := fuzSt_at hk
    rw [e] at hs
    subst hs
    rcases h with ⟨h1, h2⟩ | ⟨_, _, a, h2, _⟩
    · refine ⟨h1, i, k, rfl, ?_⟩
      split at h2
      · rename_i h3
        refine ⟨h3.1, h3.2.1, h3.2.2, ?_⟩
        have h4 := List.mem_singleton.1 h2
        have h5 : y = atS E i k + E + 2 := by unfold atS; omega
        rw [h5, atS_next2]
      · cases h2
    · cases h2
  · rintro ⟨rfl, i, k, rfl, hk, hX, hi, rfl⟩
    have hl := atS_lt (E := E) (n := n) (i := i) (k := k) (by omega) (by omega)
    refine ⟨fuzSt n E X (atS E i k), by rw [fuzL_at hl, if_pos hl], .inl ⟨rfl, ?_⟩⟩
    have e : fuzSt n E X (atS E i k) = _ := fuzSt_at (by omega)
    rw [e, if_pos ⟨hk, hX, hi⟩]
    refine List.mem_singleton.2 ?_
    rw [← atS_next2]
    rfl
/-- The ways with a character. -/
theorem fuzE_mem {f : List Int} {E X : Nat} {e : Ld} : e ∈ fuzE f E X ((f.length + 1) * (E + 1)) ↔ ∃ i k, i ≤ f.length ∧ k ≤ E ∧ ((∃ c, f[i]? = some c ∧ e = (atS E i k, atS E (i + 1) k, c, c)) ∨ (k < E ∧ X ≤ i ∧ e = (atS E i k, atS E i (k + 1), 0, 1114111)) ∨ (k < E ∧ X ≤ i ∧ i < f.length ∧ e = (atS E i k, atS E (i + 1) (k + 1), 0, 1114111))) := by
  have hat : ∀ {i k : Nat}, k ≤ E → edAt f E X (atS E i k) = edA f[i]? (atS E i k) (atS E (i + 1) k) ++ (if k = E ∨ i < X then [] else (atS E i k, atS E i (k + 1), 0, 1114111) :: edB f[i]? (atS E i k) (atS E (i + 1) (k + 1))) := fun {i k} hk => by
    rw [← atS_next, ← atS_next2, ← atS_up]
    exact edAt_at hk
  constructor
  · intro h
    obtain ⟨x, hx, he⟩ := List.mem_flatMap.1 h
    obtain ⟨i, k, hi, hk, rfl⟩ := atS_split (List.mem_range.1 hx)
    refine ⟨i, k, hi, hk, ?_⟩
    rw [hat hk] at he
    rcases List.mem_append.1 he with he | he
    · cases hc : f[i]? with
      | none => rw [hc] at he; cases he
      | some c => rw [hc] at he; exact .inl ⟨c, rfl, List.mem_singleton.1 he⟩
    · split at he
      · cases he
      · rename_i hno
        rcases List.mem_cons.1 he with he | he
        · exact .inr (.inl ⟨by omega, by omega, he⟩)
        · cases hc : f[i]? with
          | none => rw [hc] at he; cases he
          | some c => rw [hc] at he; exact .inr (.inr ⟨by omega, by omega, (List.getElem?_eq_some_iff.1 hc).1, List.mem_singleton.1 he⟩)
  · rintro ⟨i, k, hi, hk, h⟩
    refine List.mem_flatMap.2 ⟨atS E i k, List.mem_range.2 (atS_lt hi hk), ?_⟩
    rw [hat hk]
    rcases h with ⟨c, h1, rfl⟩ | ⟨h1, h2, rfl⟩ | ⟨h1, h2, h3, rfl⟩
    · rw [h1]
      exact List.mem_append_left _ (List.mem_singleton.2 rfl)
    · rw [if_neg (by omega)]
      exact List.mem_append_right _ (List.mem_cons_self ..)
    · rw [if_neg (by omega), List.getElem?_eq_getElem h3]
      exact List.mem_append_right _ (List.mem_cons_of_mem _ (List.mem_singleton.2 rfl))
/-- What is read, by its edits. -/
theorem cw_fw {f : List Int} {E X : Nat} : ∀ {u : List Int}, (∀ c ∈ u, 0 ≤ c ∧ c ≤ 1114111) → ∀ {i k z : Nat}, i ≤ f.length → k ≤ E → (CW (frF f.length E X) (fuzE f E X ((f.length + 1) * (E + 1))) (atS E i k) u z ↔ ∃ j m, z = atS E j (k + m) ∧ k + m ≤ E ∧ Fw f X i u j m) := by
  intro u hu i k z hi hk
  constructor
  · intro h
    have key : ∀ {x z : Nat} {u : List Int}, CW (frF f.length E X) (fuzE f E X ((f.length + 1) * (E + 1))) x u z → ∀ {i k : Nat}, i ≤ f.length → k ≤ E → x = atS E i k → ∃ j m, z = atS E j (k + m) ∧ k + m ≤ E ∧ Fw f X i u j m := by
      intro x z u h
      induction h with
      | nil x =>
        intro i k _ hk e
        exact ⟨i, 0, e, by omega, .nil i⟩
      | free h _ ih =>
        intro i k hi hk e
        obtain ⟨i', k', e1, h1, h2, h3, h4⟩ := h
        obtain ⟨rfl, rfl⟩ := atS_inj hk (by omega) (e.symm.trans e1)
        obtain ⟨j, m, h5, h6, h7⟩ := ih (i := i + 1) (k := k + 1) (by omega) (by omega) h4
        exact ⟨j, m + 1, by rw [h5]; congr 1; omega, by omega, .skip h2 h3 h7⟩
      | @char z e c l he h1 h2 _ ih =>
        intro i k hi hk e0
        obtain ⟨i', k', hi', hk', h⟩ := fuzE_mem.1 he
        rcases h with ⟨d, h3, rfl⟩ | ⟨h3, h4, rfl⟩ | ⟨h3, h4, h5, rfl⟩
        · obtain ⟨rfl, rfl⟩ := atS_inj hk hk' e0.symm
          have h6 := (List.getElem?_eq_some_iff.1 h3).1
          obtain ⟨j, m, h7, h8, h9⟩ := ih (i := i + 1) (k := k) (by omega) hk rfl
          have h1 : d ≤ c := h1
          have h2 : c ≤ d := h2
          obtain rfl : d = c := by omega
          exact ⟨j, m, h7, h8, .eq h3 h9⟩
        · obtain ⟨rfl, rfl⟩ := atS_inj hk hk' e0.symm
          obtain ⟨j, m, h7, h8, h9⟩ := ih (i := i) (k := k + 1) hi (by omega) rfl
          exact ⟨j, m + 1, by rw [h7]; congr 1; omega, by omega, .put h4 h9⟩
        · obtain ⟨rfl, rfl⟩ := atS_inj hk hk' e0.symm
          obtain ⟨j, m, h7, h8, h9⟩ := ih (i := i + 1) (k := k + 1) (by omega) (by omega) rfl
          exact ⟨j, m + 1, by rw [h7]; congr 1; omega, by omega, .sub h4 h5 h9⟩
    exact key h hi hk rfl
  · rintro ⟨j, m, rfl, hm, h⟩
    induction h generalizing k with
    | nil i => exact .nil _
    | @eq i j n c u h r ih =>
      have h6 := (List.getElem?_eq_some_iff.1 h).1
      exact .char (e := (atS E i k, atS E (i + 1) k, c, c)) (fuzE_mem.2 ⟨i, k, hi, hk, .inl ⟨c, h, rfl⟩⟩) (Int.le_refl _) (Int.le_refl _) (ih (fun x hx => hu x (List.mem_cons_of_mem _ hx)) (by omega) hk hm)
    | @put i j n c u h r ih =>
      have hc := hu c (List.mem_cons_self ..)
      have h1 := ih (k := k + 1) (fun x hx => hu x (List.mem_cons_of_mem _ hx)) hi (by omega) (by omega)
      rw [show k + 1 + n = k + (n + 1) by omega] at h1
      exact .char (e := (atS E i k, atS E i (k + 1), 0, 1114111)) (fuzE_mem.2 ⟨i, k, hi, hk, .inr (.inl ⟨by omega, h, rfl⟩)⟩) hc.1 hc.2 h1
    | @sub i j n c u h h' r ih =>
      have hc := hu c (List.mem_cons_self ..)
      have h1 := ih (k := k + 1) (fun x hx => hu x (List.mem_cons_of_mem _ hx)) (by omega) (by omega) (by omega)
      rw [show k + 1 + n = k + (n + 1) by omega] at h1
      exact .char (e := (atS E i k, atS E (i + 1) (k + 1), 0, 1114111)) (fuzE_mem.2 ⟨i, k, hi, hk, .inr (.inr ⟨by omega, h, h', rfl⟩)⟩) hc.1 hc.2 h1
    | @skip i j n u h h' r ih =>
      have h1 := ih (k := k + 1) hu (by omega) (by omega) (by omega)
      rw [show k + 1 + n = k + (n + 1) by omega] at h1
      exact .free ⟨i, k, rfl, by omega, h, h', rfl⟩ h1
end Go.Proofs.YtclahhkcbkpofaaDoor
/- Which texts a word's automaton takes (plain Lean). -/
namespace Go.Proofs.YtclahhkcbkpofaaDoor
open Sp
/-- From a place in the head. -/
theorem fw_head {f : List Int} {X j m : Nat} {u : List Int} (hX : X ≤ f.length) : ∀ {i : Nat}, i ≤ X → (Fw f X i u j m ↔ (i ≤ j ∧ j < X ∧ m = 0 ∧ u = (f.drop i).take (j - i)) ∨ (X ≤ j ∧ ∃ u', u = (f.drop i).take (X - i) ++ u' ∧ Fw f X X u' j m)) := by
  intro i hi
  constructor
  · intro h
    induction h with
    | nil i =>
      by_cases e : i = X
      · subst e
        exact .inr ⟨Nat.le_refl _, [], by simp, .nil _⟩
      · exact .inl ⟨Nat.le_refl _, by omega, rfl, by simp⟩
    | @eq i j n c u h r ih =>
      by_cases e : i = X
      · subst e
        exact .inr ⟨(Fw.le (.eq h r) hX).1, _, by simp, .eq h r⟩
      · obtain ⟨h1, h2⟩ := List.getElem?_eq_some_iff.1 h
        rcases ih (by omega) with ⟨h3, h4, h5, h6⟩ | ⟨h3, u', h4, h5⟩
        · exact .inl ⟨by omega, h4, h5, by rw [cut_step h1 h3, h2, h6]⟩
        · exact .inr ⟨h3, u', by rw [cut_step h1 (show i + 1 ≤ X by omega), h2, h4]; rfl, h5⟩
    | @put i j n c u h r ih =>
      obtain rfl : i = X := by omega
      exact .inr ⟨(r.le hX).1, c :: u, by simp, .put h r⟩
    | @sub i j n c u h h1 r ih =>
      obtain rfl : i = X := by omega
      have := (r.le h1).1
      exact .inr ⟨by omega, c :: u, by simp, .sub h h1 r⟩
    | @skip i j n u h h1 r ih =>
      obtain rfl : i = X := by omega
      have := (r.le h1).1
      exact .inr ⟨by omega, u, by simp, .skip h h1 r⟩
  · have key : ∀ (d : Nat) {i x n : Nat} {v : List Int}, x - i = d → i ≤ x → x ≤ f.length → Fw f X x v j n → Fw f X i ((f.drop i).take (x - i) ++ v) j n := by
      intro d
      induction d with
      | zero =>
        intro i x n v h1 h2 _ h
        obtain rfl : i = x := by omega
        simpa using h
      | succ d ih =>
        intro i x n v h1 h2 h3 h
        rw [cut_step (show i < f.length by omega) (show i + 1 ≤ x by omega)]
        exact .eq (List.getElem?_eq_getElem (by omega)) (ih (by omega) (by omega) h3 h)
    rintro (⟨h1, h2, rfl, rfl⟩ | ⟨h1, u', rfl, h2⟩)
    · have := key (j - i) rfl h1 (by omega) (.nil (f := f) (X := X) j)
      rwa [List.append_nil] at this
    · exact key (X - i) rfl hi hX h2
/-- The head stands, and the rest is near. -/
def nearL (f : List Int) (E X : Nat) (l : List Int) : Prop := ∃ u, l = f.take X ++ u ∧ lev u (f.drop X) ≤ E
theorem fw_near {f : List Int} {E X : Nat} {l : List Int} (hX : X ≤ f.length) : (∃ k, k ≤ E ∧ Fw f X 0 l f.length k) ↔ nearL f E X l := by
  have hfull : (f.drop X).take (f.length - X) = f.drop X := List.take_of_length_le (by rw [List.length_drop]; omega)
  constructor
  · rintro ⟨k, hk, h⟩
    rcases (fw_head hX (Nat.zero_le _)).1 h with ⟨_, h1, _⟩ | ⟨_, u, h1, h2⟩
    · omega
    · refine ⟨u, by simpa using h1, ?_⟩
      obtain ⟨_, _, h3⟩ := (fw_ex (Nat.le_refl X) hX).1 h2
      rw [hfull] at h3
      have := h3.least
      omega
  · rintro ⟨u, rfl, h⟩
    refine ⟨_, h, (fw_head hX (Nat.zero_le _)).2 (.inr ⟨hX, u, by simp, (fw_ex (Nat.le_refl X) hX).2 ⟨hX, Nat.le_refl _, ?_⟩⟩)⟩
    rw [hfull]
    exact ex_lev u (f.drop X)
theorem wholes {l : List Int} {bs : List Nat} (h : Dec bs l) : ∀ c ∈ l, 0 ≤ c ∧ c ≤ 1114111 := fun c hc => by
  have h1 : 0 ≤ c ∧ c ≤ 1114111 ∧ (c < 55296 ∨ 57343 < c) := of_decide_eq_true (h.1 c hc)
  exact ⟨h1.1, h1.2.1⟩
/-- Which texts are taken. -/
theorem fuz_takes {f : List Int} {E X : Nat} (hX : X ≤ f.length) {t : List UInt8} {l : List Int} (hd : Dec (bytesN t) l) : looseTakes (fuzA f E X) t = true ↔ nearL f E X l := by
  have hN : (fuzL f.length E X ((f.length + 1) * (E + 1))).length = (f.length + 1) * (E + 1) := fuzL_len _ _ _ _
  have hNp : 0 < (f.length + 1) * (E + 1) := Nat.mul_pos (by omega) (by omega)
  have hin : InE (edgeL (fuzL f.length E X ((f.length + 1) * (E + 1)))) (fuzL f.length E X ((f.length + 1) * (E + 1))).length := fun x t y h => by
    obtain ⟨_, i, k, rfl, h1, h2, h3, rfl⟩ := (fuz_edge _ _ _ _ _ _).1 h
    rw [hN]
    exact ⟨atS_lt (by omega) (by omega), atS_lt (by omega) (by omega)⟩
  have h : looseTakes (fuzA f E X) t = true ↔ ∃ z s, (fuzA f E X)[z]? = some s ∧ s.fin = true ∧ Way (edgeL (fuzA f E X)) 0 (bytesN t) z := takes_way
  have hw : ∀ z, z < (f.length + 1) * (E + 1) → (Way (edgeL (fuzA f E X)) 0 (bytesN t) z ↔ CW (frF f.length E X) (fuzE f E X ((f.length + 1) * (E + 1))) 0 l z) := fun z hz => by
    unfold fuzA
    rw [← noE_way, leads_way _ _ noE (fuzE_ok f E X) hin (noE_in _) (by rw [hN]; exact hNp) (by rw [hN]; exact hz), orE_no, hd.2, cw_iff (fuz_edge _ _ _) hd.1]
  have hc : ∀ z, CW (frF f.length E X) (fuzE f E X ((f.length + 1) * (E + 1))) 0 l z ↔ ∃ j m, z = atS E j (0 + m) ∧ 0 + m ≤ E ∧ Fw f X 0 l j m := fun z => by
    have := cw_fw (f := f) (E := E) (X := X) (wholes hd) (i := 0) (k := 0) (z := z) (Nat.zero_le _) (Nat.zero_le _)
    rw [show atS E 0 0 = 0 by unfold atS; omega] at this
    exact this
  rw [h, ← fw_near hX]
  constructor
  · rintro ⟨z, s, h1, h2, h3⟩
    obtain ⟨s', h4, h5⟩ := (leads_fin (fuzE f E X ((f.length + 1) * (E + 1))) (fuzL f.length E X ((f.length + 1) * (E + 1))) (z := z)).1 ⟨s, h1, h2⟩
    have hz := (List.getElem?_eq_some_iff.1 h4).1
    rw [hN] at hz
    obtain ⟨j, m, rfl, h6, h7⟩ := (hc z).1 ((hw z hz).1 h3)
    rw [fuzL_at hz, if_pos hz] at h4
    injection h4 with h4
    have e : fuzSt f.length E X (atS E j (0 + m)) = _ := fuzSt_at h6
    rw [e] at h4
    rw [← h4] at h5
    have h5 := of_decide_eq_true h5
    subst h5
    exact ⟨m, by omega, h7⟩
  · rintro ⟨k, hk, h1⟩
    have hz := atS_lt (E := E) (n := f.length) (i := f.length) (k := k) (Nat.le_refl _) hk
    have e : fuzSt f.length E X (atS E f.length k) = _ := fuzSt_at hk
    obtain ⟨s, h4, h5⟩ := (leads_fin (fuzE f E X ((f.length + 1) * (E + 1))) (fuzL f.length E X ((f.length + 1) * (E + 1))) (z := atS E f.length k)).2 ⟨_, by rw [fuzL_at hz, if_pos hz, e], decide_eq_true rfl⟩
    exact ⟨_, s, h4, h5, (hw _ hz).2 ((hc _).2 ⟨_, k, by rw [Nat.zero_add], by omega, h1⟩)⟩
end Go.Proofs.YtclahhkcbkpofaaDoor
/- The reference's Begins: does a list begin with another one? -/
namespace Go.Proofs.YtclahhkcbkpofaaDoor
open Go.RowKit
set_option linter.unusedVariables false
theorem pre_none {l h : List Int} {j : Nat} (hj : j < h.length) (hl : l.length ≤ j) : decide (h <+: l) = false := by
  rw [decide_eq_false_iff_not]
  intro e
  have := e.length_le
  omega
theorem pre_diff {l h : List Int} {j : Nat} {a b : Int} (ha : l[j]? = some a) (hb : h[j]? = some b) (hab : a ≠ b) : decide (h <+: l) = false := by
  rw [decide_eq_false_iff_not]
  rintro ⟨r, e⟩
  have h1 := (List.getElem?_eq_some_iff.1 hb).1
  rw [← e, List.getElem?_append_left h1, hb] at ha
  injection ha with ha
  exact hab ha.symm
theorem pre_step {l h : List Int} {j : Nat} {a : Int} (hp : h.take j <+: l) (ha : l[j]? = some a) (hb : h[j]? = some a) : h.take (j + 1) <+: l := by
  obtain ⟨h1, e1⟩ := List.getElem?_eq_some_iff.1 hb
  obtain ⟨h2, e2⟩ := List.getElem?_eq_some_iff.1 ha
  have h3 : (h.take j).length = j := by rw [List.length_take]; omega
  have e3 := List.prefix_iff_eq_take.1 hp
  rw [h3] at e3
  rw [List.take_succ_eq_append_getElem h1, e1, e3, ← e2, ← List.take_succ_eq_append_getElem h2]
  exact List.take_prefix _ _
set_option maxRecDepth 100000 in
set_option maxHeartbeats 8000000 in
theorem begins_any (w : World) (B : Nat) (hB : B ≤ w.heap.size) (A1 A2 : Option Addr) (n1 n2 c1 c2 : Nat) (l h : List Int) (h1 : Sl w B 1 A1 n1 (l.map (.int .i64))) (h2 : Sl w B 1 A2 n2 (h.map (.int .i64))) (hn1 : n1 ≤ 17592186044416) (hn2 : n2 ≤ 1000000) :
    Calls Tryd.prog 30 #[.slice A1 n1 c1, .slice A2 n2 c2] w fun e w' => e = .returned (.bool (decide (h <+: l))) ∧ Below w.heap.size w w' := by
  have HL1 : Hid (l.length = n1) := by have := h1.1; show _ = _; simpa using this
  have HL2 : Hid (h.length = n2) := by have := h2.1; show _ = _; simpa using this
  have HS1 := Lib.hid h1
  have HS2 := Lib.hid h2
  clear h1 h2
  go_enter Tryd.func30, Tryd.ntmps30
  go_wp2_with fail
  go_loopw [5] (fun iv wr => ∃ j : Nat, j ≤ n2 ∧ iv = .int .i64 (j : Int) ∧ Hid (Below w.heap.size w wr) ∧ Hid (h.take j <+: l)) (fun iv _ => n2 - (intOf iv).toNat)
  case atStart => exact ⟨0, Nat.zero_le _, rfl, brefl w, Lib.hid (by simp)⟩
  case round =>
    obtain ⟨j, hj, rfl, HB, HP⟩ := hrel
    by_cases hjn : j < n2
    · have hq : decide (j < n2) = true := decide_eq_true hjn
      obtain ⟨b, hb⟩ : ∃ b, h[j]? = some b := ⟨h[j]'(by rw [HL2.out]; exact hjn), List.getElem?_eq_getElem _⟩
      by_cases hjl : j < n1
      · obtain ⟨a, ha⟩ : ∃ a, l[j]? = some a := ⟨l[j]'(by rw [HL1.out]; exact hjl), List.getElem?_eq_getElem _⟩
        obtain ⟨g1, o1, rfl, hg1, k1⟩ := (HS1.out.below (HB.out.mono hB)).at_ hjl
        obtain ⟨g2, o2, rfl, hg2, k2⟩ := (HS2.out.below (HB.out.mono hB)).at_ hjn
        have r1 := k1 j (.int .i64 a) (by rw [List.getElem?_map, ha]; rfl)
        have r2 := k2 j (.int .i64 b) (by rw [List.getElem?_map, hb]; rfl)
        have b1 : g1 < wr.heap.size := Nat.lt_of_lt_of_le hg1 (Nat.le_trans hB HB.out.size)
        have b2 : g2 < wr.heap.size := Nat.lt_of_lt_of_le hg2 (Nat.le_trans hB HB.out.size)
        have p1 : decide ((j : Int) ≥ (n1 : Int)) = false := decide_eq_false (by omega)
        have p2 : decide (j ≥ n1) = false := decide_eq_false (by omega)
        have p3 : decide (n1 ≤ j) = false := decide_eq_false (by omega)
        by_cases hab : a = b
        · subst hab
          have HPN := Lib.hid (pre_step HP.out ha hb)
          have hne : (a != a) = false := by simp
          clear k1 k2 ha hb
          go_wp2_with fail
          go_region
          go_wp2_with fail
          go_roundw
          case rel => exact ⟨j + 1, by omega, by go_num, HB.out.drew, HPN⟩
          case measure => simp [intOf]; omega
        · have HF := Lib.hid (pre_diff ha hb hab)
          have hne : (a != b) = true := by rw [bne_iff_ne]; exact hab
          clear k1 k2 ha hb hab
          go_wp2_with fail
          go_region
          go_wp2_with fail
          go_ret
          exact ⟨by rw [HF.out]; rfl, HB.out.drew⟩
      · have HF := Lib.hid (pre_none (l := l) (h := h) (j := j) (by rw [HL2.out]; exact hjn) (by rw [HL1.out]; omega))
        have p1 : decide ((j : Int) ≥ (n1 : Int)) = true := decide_eq_true (by omega)
        have p2 : decide (j ≥ n1) = true := decide_eq_true (by omega)
        have p3 : decide (n1 ≤ j) = true := decide_eq_true (by omega)
        clear hb
        go_wp2_with fail
        go_region
        go_wp2_with fail
        go_ret
        exact ⟨by rw [HF.out]; rfl, HB.out.drew⟩
    · obtain rfl : j = n2 := by omega
      have hq : decide (j < j) = false := decide_eq_false hjn
      have HT : Hid (decide (h <+: l) = true) := by
        have := HP.out
        rw [← HL2.out, List.take_length] at this
        exact decide_eq_true this
      go_wp2_with fail
      go_ret
      exact ⟨by rw [HT.out]; rfl, HB.out⟩
end Go.Proofs.YtclahhkcbkpofaaDoor
/- The reference's Near. -/
namespace Go.Proofs.YtclahhkcbkpofaaDoor
open Go.RowKit
open Sp
set_option linter.unusedVariables false
set_option linter.unusedSimpArgs false
theorem near_iff {f : List Int} {E X : Nat} {l : List Int} (hX : X ≤ f.length) : (f.take X <+: l ∧ lev (f.drop X) (l.drop X) ≤ E) ↔ nearL f E X l := by
  constructor
  · rintro ⟨⟨u, rfl⟩, h⟩
    refine ⟨u, rfl, ?_⟩
    rw [List.drop_left' (by rw [List.length_take]; omega), lev_symm] at h
    exact h
  · rintro ⟨u, rfl, h⟩
    refine ⟨⟨u, rfl⟩, ?_⟩
    rw [List.drop_left' (by rw [List.length_take]; omega), lev_symm]
    exact h
set_option maxRecDepth 100000 in
set_option maxHeartbeats 8000000 in
theorem near_any (w : World) (B : Nat) (hB : B ≤ w.heap.size) (A1 A2 : Option Addr) (n1 n2 c1 c2 : Nat) (f l : List Int) (h1 : Sl w B 1 A1 n1 (f.map (.int .i64))) (h2 : Sl w B 1 A2 n2 (l.map (.int .i64))) (hn1 : n1 ≤ 16) (hn2 : n2 ≤ 100) (hc1 : n1 ≤ c1) (hc2 : n2 ≤ c2) (E X : Nat) (hE : E ≤ 2) (hX : X ≤ n1) :
    Calls Tryd.prog 27 #[.slice A1 n1 c1, .int .i64 (E : Int), .int .i64 (X : Int), .slice A2 n2 c2] w fun e w' => e = .returned (.bool (decide (f.take X <+: l ∧ lev (f.drop X) (l.drop X) ≤ E))) ∧ Below w.heap.size w w' := by
  have HS1 := Lib.hid h1
  have HS2 := Lib.hid h2
  have d1 := (h1.more hB).below (Below.drew (brefl w))
  have d2 := (h2.more hB).below (Below.drew (brefl w))
  have p1 := d1.pre hX
  rw [Nat.mul_one, ← List.map_take] at p1
  have HBG := Lib.hid (begins_any w.drew w.heap.size (Nat.le_refl _) A2 A1 n2 X c2 c1 l (f.take X) d2 p1 (by omega) (by omega))
  have HDI : Hid (X ≤ n2 → ∀ W, Below w.heap.size w W → Calls Tryd.prog 23 #[.slice (if c1 = X then A1 else A1.map (·.add X)) (n1 - X) (c1 - X), .slice (if c2 = X then A2 else A2.map (·.add X)) (n2 - X) (c2 - X)] W fun e w' => e = .returned (.int .i64 ((lev (f.drop X) (l.drop X) : Nat) : Int)) ∧ Below W.heap.size W w') := fun hx W hb => by
    have s1 := ((h1.cut hX hc1).more hB).below hb
    have s2 := ((h2.cut hx hc2).more hB).below hb
    simp only [Nat.mul_one, ← List.map_drop] at s1 s2
    exact rdistance_any W w.heap.size hb.size _ _ (n1 - X) (n2 - X) (c1 - X) (c2 - X) (f.drop X) (l.drop X) s1 s2 (by omega) (by omega)
  clear h1 h2 d1 d2 p1
  go_enter Tryd.func27, Tryd.ntmps27
  go_wp2_with fail
  obtain ⟨bg, hbg⟩ : ∃ b, decide (f.take X <+: l) = b := ⟨_, rfl⟩
  have hxc : X ≤ c1 := by omega
  cases bg
  · skip
    refine wp_region_held_drew (S := fun _ => True) (by kernel_rfl) ?_ (fun hHeld => ?_)
    · (try dsimp only); (first | trivial | skip)
    refine wpAnyH_take (i := 0) (v := ?_) rfl (by kernel_rfl) (by kernel_rfl) (by kernel_rfl) (fun _ _ _ h => h) (Or.inl ⟨by rfl, ?_⟩) (by assumption) ?_
    rotate_left
    · intro w hSw; (try dsimp only at hSw); go_simp; (try with_reducible rfl)
    try simp only [Act.put, List.setIfInBounds_toArray, List.set_cons_zero, List.set_cons_succ]
    refine wpAnyH_take (i := 1) (v := ?_) rfl (by kernel_rfl) (by kernel_rfl) (by kernel_rfl) (fun _ _ _ h => h) (Or.inl ⟨by rfl, ?_⟩) (by assumption) ?_
    rotate_left
    · intro w hSw; (try dsimp only at hSw); go_simp; (try with_reducible rfl)
    try simp only [Act.put, List.setIfInBounds_toArray, List.set_cons_zero, List.set_cons_succ]
    refine wpAnyH_take (i := 2) (v := ?_) rfl (by kernel_rfl) (by kernel_rfl) (by kernel_rfl) (fun _ _ _ h => h) (Or.inl ⟨by rfl, ?_⟩) (by assumption) ?_
    rotate_left
    · intro w hSw; (try dsimp only at hSw); go_simp; (try with_reducible rfl)
    try simp only [Act.put, List.setIfInBounds_toArray, List.set_cons_zero, List.set_cons_succ]
    refine wpAnyH_take (i := 3) (v := ?_) rfl (by kernel_rfl) (by kernel_rfl) (by kernel_rfl) (fun _ _ _ h => h) (Or.inl ⟨by rfl, ?_⟩) (by assumption) ?_
    rotate_left
    · intro w hSw; (try dsimp only at hSw); go_simp; (try with_reducible rfl)
    try simp only [Act.put, List.setIfInBounds_toArray, List.set_cons_zero, List.set_cons_succ]
    refine wpAnyH_ready (rs := [4]) (by kernel_rfl) (by simp) ?_
    refine AllReadyH.cons rfl (fun K hK => ?_) AllReadyH.nil
    go_simp
    go_at_call 30
    refine HBG.out.mono ?_
    rintro e w1 ⟨rfl, hb1⟩
    have HB1 : Hid (Below w.heap.size w w1) := bcall (Below.drew (brefl w)) hb1
    clear hb1 HBG
    rw [hbg]
    refine hK.out _ _ ?_ (fun hHeld => ?_)
    · (try dsimp only); (first | trivial | skip)
    clear hK K
    try simp only [Act.put, List.setIfInBounds_toArray, List.set_cons_zero, List.set_cons_succ]
    refine wpAnyH_take (i := 5) (v := ?_) rfl (by kernel_rfl) (by kernel_rfl) (by kernel_rfl) (fun _ _ _ h => h) (Or.inl ⟨by rfl, ?_⟩) (by assumption) ?_
    rotate_left
    · intro w hSw; (try dsimp only at hSw); go_simp; (try with_reducible rfl)
    try simp only [Act.put, List.setIfInBounds_toArray, List.set_cons_zero, List.set_cons_succ]
    refine wpAnyH_take (i := 6) (v := undef) rfl (by kernel_rfl) (by kernel_rfl) (by kernel_rfl) (fun _ _ _ h => h) (Or.inr ⟨by kernel_rfl, rfl⟩) (by assumption) ?_
    try simp only [Act.put, List.setIfInBounds_toArray, List.set_cons_zero, List.set_cons_succ]
    refine wpAnyH_take (i := 7) (v := undef) rfl (by kernel_rfl) (by kernel_rfl) (by kernel_rfl) (fun _ _ _ h => h) (Or.inr ⟨by kernel_rfl, rfl⟩) (by assumption) ?_
    try simp only [Act.put, List.setIfInBounds_toArray, List.set_cons_zero, List.set_cons_succ]
    refine wpAnyH_take (i := 8) (v := undef) rfl (by kernel_rfl) (by kernel_rfl) (by kernel_rfl) (fun _ _ _ h => h) (Or.inr ⟨by kernel_rfl, rfl⟩) (by assumption) ?_
    try simp only [Act.put, List.setIfInBounds_toArray, List.set_cons_zero, List.set_cons_succ]
    refine wpAnyH_take (i := 9) (v := undef) rfl (by kernel_rfl) (by kernel_rfl) (by kernel_rfl) (fun _ _ _ h => h) (Or.inr ⟨by kernel_rfl, rfl⟩) (by assumption) ?_
    try simp only [Act.put, List.setIfInBounds_toArray, List.set_cons_zero, List.set_cons_succ]
    refine wpAnyH_take (i := 10) (v := undef) rfl (by kernel_rfl) (by kernel_rfl) (by kernel_rfl) (fun _ _ _ h => h) (Or.inr ⟨by kernel_rfl, rfl⟩) (by assumption) ?_
    try simp only [Act.put, List.setIfInBounds_toArray, List.set_cons_zero, List.set_cons_succ]
    refine wpAnyH_take (i := 11) (v := undef) rfl (by kernel_rfl) (by kernel_rfl) (by kernel_rfl) (fun _ _ _ h => h) (Or.inr ⟨by kernel_rfl, rfl⟩) (by assumption) ?_
    try simp only [Act.put, List.setIfInBounds_toArray, List.set_cons_zero, List.set_cons_succ]
    refine wpAnyH_take (i := 12) (v := undef) rfl (by kernel_rfl) (by kernel_rfl) (by kernel_rfl) (fun _ _ _ h => h) (Or.inr ⟨by kernel_rfl, rfl⟩) (by assumption) ?_
    try simp only [Act.put, List.setIfInBounds_toArray, List.set_cons_zero, List.set_cons_succ]
    refine wpAnyH_take (i := 13) (v := undef) rfl (by kernel_rfl) (by kernel_rfl) (by kernel_rfl) (fun _ _ _ h => h) (Or.inr ⟨by kernel_rfl, rfl⟩) (by assumption) ?_
    try simp only [Act.put, List.setIfInBounds_toArray, List.set_cons_zero, List.set_cons_succ]
    refine wpAnyH_take (i := 14) (v := undef) rfl (by kernel_rfl) (by kernel_rfl) (by kernel_rfl) (fun _ _ _ h => h) (Or.inr ⟨by kernel_rfl, rfl⟩) (by assumption) ?_
    try simp only [Act.put, List.setIfInBounds_toArray, List.set_cons_zero, List.set_cons_succ]
    refine wpAnyH_take (i := 15) (v := ?_) rfl (by kernel_rfl) (by kernel_rfl) (by kernel_rfl) (fun _ _ _ h => h) (Or.inl ⟨by rfl, ?_⟩) (by assumption) ?_
    rotate_left
    · intro w hSw; (try dsimp only at hSw); go_simp; (try with_reducible rfl)
    try simp only [Act.put, List.setIfInBounds_toArray, List.set_cons_zero, List.set_cons_succ]
    refine wpAnyH_take (i := 16) (v := ?_) rfl (by kernel_rfl) (by kernel_rfl) (by kernel_rfl) (fun _ _ _ h => h) (Or.inl ⟨by rfl, ?_⟩) (by assumption) ?_
    rotate_left
    · intro w hSw; (try dsimp only at hSw); go_simp; (try with_reducible rfl)
    try simp only [Act.put, List.setIfInBounds_toArray, List.set_cons_zero, List.set_cons_succ]
    refine wpAnyH_done (by kernel_rfl) ?_ _
    simp only [List.getElem_toArray, List.getElem_cons_zero, List.getElem_cons_succ, Act.put, List.setIfInBounds_toArray, List.set_cons_zero, List.set_cons_succ]
    clear hHeld
    go_wp2_with fail
    go_ret
    exact ⟨by rw [decide_eq_false (fun h => absurd h.1 (of_decide_eq_false hbg))]; rfl, HB1.out⟩
  · have hXn : X ≤ n2 := by
      have h1 := (of_decide_eq_true hbg).length_le
      have h2 := HS1.out.1
      have h3 := HS2.out.1
      rw [List.length_map] at h2 h3
      rw [List.length_take] at h1
      omega
    have hxc2 : X ≤ c2 := by omega
    refine wp_region_held_drew (S := fun _ => True) (by kernel_rfl) ?_ (fun hHeld => ?_)
    · (try dsimp only); (first | trivial | skip)
    refine wpAnyH_take (i := 0) (v := ?_) rfl (by kernel_rfl) (by kernel_rfl) (by kernel_rfl) (fun _ _ _ h => h) (Or.inl ⟨by rfl, ?_⟩) (by assumption) ?_
    rotate_left
    · intro w hSw; (try dsimp only at hSw); go_simp; (try with_reducible rfl)
    try simp only [Act.put, List.setIfInBounds_toArray, List.set_cons_zero, List.set_cons_succ]
    refine wpAnyH_take (i := 1) (v := ?_) rfl (by kernel_rfl) (by kernel_rfl) (by kernel_rfl) (fun _ _ _ h => h) (Or.inl ⟨by rfl, ?_⟩) (by assumption) ?_
    rotate_left
    · intro w hSw; (try dsimp only at hSw); go_simp; (try with_reducible rfl)
    try simp only [Act.put, List.setIfInBounds_toArray, List.set_cons_zero, List.set_cons_succ]
    refine wpAnyH_take (i := 2) (v := ?_) rfl (by kernel_rfl) (by kernel_rfl) (by kernel_rfl) (fun _ _ _ h => h) (Or.inl ⟨by rfl, ?_⟩) (by assumption) ?_
    rotate_left
    · intro w hSw; (try dsimp only at hSw); go_simp; (try with_reducible rfl)
    try simp only [Act.put, List.setIfInBounds_toArray, List.set_cons_zero, List.set_cons_succ]
    refine wpAnyH_take (i := 3) (v := ?_) rfl (by kernel_rfl) (by kernel_rfl) (by kernel_rfl) (fun _ _ _ h => h) (Or.inl ⟨by rfl, ?_⟩) (by assumption) ?_
    rotate_left
    · intro w hSw; (try dsimp only at hSw); go_simp; (try with_reducible rfl)
    try simp only [Act.put, List.setIfInBounds_toArray, List.set_cons_zero, List.set_cons_succ]
    refine wpAnyH_ready (rs := [4]) (by kernel_rfl) (by simp) ?_
    refine AllReadyH.cons rfl (fun K hK => ?_) AllReadyH.nil
    go_simp
    go_at_call 30
    refine HBG.out.mono ?_
    rintro e w1 ⟨rfl, hb1⟩
    have HB1 : Hid (Below w.heap.size w w1) := bcall (Below.drew (brefl w)) hb1
    clear hb1 HBG
    rw [hbg]
    refine hK.out _ _ ?_ (fun hHeld => ?_)
    · (try dsimp only); (first | trivial | skip)
    clear hK K
    try simp only [Act.put, List.setIfInBounds_toArray, List.set_cons_zero, List.set_cons_succ]
    refine wpAnyH_take (i := 5) (v := ?_) rfl (by kernel_rfl) (by kernel_rfl) (by kernel_rfl) (fun _ _ _ h => h) (Or.inl ⟨by rfl, ?_⟩) (by assumption) ?_
    rotate_left
    · intro w hSw; (try dsimp only at hSw); go_simp; (try with_reducible rfl)
    try simp only [Act.put, List.setIfInBounds_toArray, List.set_cons_zero, List.set_cons_succ]
    refine wpAnyH_take (i := 6) (v := ?_) rfl (by kernel_rfl) (by kernel_rfl) (by kernel_rfl) (fun _ _ _ h => h) (Or.inl ⟨by rfl, ?_⟩) (by assumption) ?_
    rotate_left
    · intro w hSw; (try dsimp only at hSw); go_simp; (try with_reducible rfl)
    try simp only [Act.put, List.setIfInBounds_toArray, List.set_cons_zero, List.set_cons_succ]
    refine wpAnyH_take (i := 7) (v := ?_) rfl (by kernel_rfl) (by kernel_rfl) (by kernel_rfl) (fun _ _ _ h => h) (Or.inl ⟨by rfl, ?_⟩) (by assumption) ?_
    rotate_left
    · intro w hSw; (try dsimp only at hSw); go_simp; (try with_reducible rfl)
    try simp only [Act.put, List.setIfInBounds_toArray, List.set_cons_zero, List.set_cons_succ]
    refine wpAnyH_take (i := 8) (v := ?_) rfl (by kernel_rfl) (by kernel_rfl) (by kernel_rfl) (fun _ _ _ h => h) (Or.inl ⟨by rfl, ?_⟩) (by assumption) ?_
    rotate_left
    · intro w hSw; (try dsimp only at hSw); go_simp; (try with_reducible rfl)
    try simp only [Act.put, List.setIfInBounds_toArray, List.set_cons_zero, List.set_cons_succ]
    refine wpAnyH_take (i := 9) (v := ?_) rfl (by kernel_rfl) (by kernel_rfl) (by kernel_rfl) (fun _ _ _ h => h) (Or.inl ⟨by rfl, ?_⟩) (by assumption) ?_
    rotate_left
    · intro w hSw; (try dsimp only at hSw); go_simp; (try with_reducible rfl)
    try simp only [Act.put, List.setIfInBounds_toArray, List.set_cons_zero, List.set_cons_succ]
    refine wpAnyH_take (i := 10) (v := ?_) rfl (by kernel_rfl) (by kernel_rfl) (by kernel_rfl) (fun _ _ _ h => h) (Or.inl ⟨by rfl, ?_⟩) (by assumption) ?_
    rotate_left
    · intro w hSw; (try dsimp only at hSw); go_simp; (try with_reducible rfl)
    try simp only [Act.put, List.setIfInBounds_toArray, List.set_cons_zero, List.set_cons_succ]
    refine wpAnyH_take (i := 11) (v := ?_) rfl (by kernel_rfl) (by kernel_rfl) (by kernel_rfl) (fun _ _ _ h => h) (Or.inl ⟨by rfl, ?_⟩) (by assumption) ?_
    rotate_left
    · intro w hSw; (try dsimp only at hSw); go_simp; (try with_reducible rfl)
    try simp only [Act.put, List.setIfInBounds_toArray, List.set_cons_zero, List.set_cons_succ]
    refine wpAnyH_take (i := 13) (v := ?_) rfl (by kernel_rfl) (by kernel_rfl) (by kernel_rfl) (fun _ _ _ h => h) (Or.inl ⟨by rfl, ?_⟩) (by assumption) ?_
    rotate_left
    · intro w hSw; (try dsimp only at hSw); go_simp; (try with_reducible rfl)
    try simp only [Act.put, List.setIfInBounds_toArray, List.set_cons_zero, List.set_cons_succ]
    refine wpAnyH_ready (rs := [12]) (by kernel_rfl) (by simp) ?_
    refine AllReadyH.cons rfl (fun K hK => ?_) AllReadyH.nil
    go_simp
    go_at_call 23
    refine (HDI.out hXn _ HB1.out).mono ?_
    rintro e w2 ⟨rfl, hb2⟩
    have HB2 : Hid (Below w.heap.size w w2) := bcall HB1.out hb2
    clear hb2 HDI
    refine hK.out _ _ ?_ (fun hHeld => ?_)
    · (try dsimp only); (first | trivial | skip)
    clear hK K
    try simp only [Act.put, List.setIfInBounds_toArray, List.set_cons_zero, List.set_cons_succ]
    refine wpAnyH_take (i := 14) (v := ?_) rfl (by kernel_rfl) (by kernel_rfl) (by kernel_rfl) (fun _ _ _ h => h) (Or.inl ⟨by rfl, ?_⟩) (by assumption) ?_
    rotate_left
    · intro w hSw; (try dsimp only at hSw); go_simp; (try with_reducible rfl)
    try simp only [Act.put, List.setIfInBounds_toArray, List.set_cons_zero, List.set_cons_succ]
    refine wpAnyH_take (i := 15) (v := ?_) rfl (by kernel_rfl) (by kernel_rfl) (by kernel_rfl) (fun _ _ _ h => h) (Or.inl ⟨by rfl, ?_⟩) (by assumption) ?_
    rotate_left
    · intro w hSw; (try dsimp only at hSw); go_simp; (try with_reducible rfl)
    try simp only [Act.put, List.setIfInBounds_toArray, List.set_cons_zero, List.set_cons_succ]
    refine wpAnyH_take (i := 16) (v := ?_) rfl (by kernel_rfl) (by kernel_rfl) (by kernel_rfl) (fun _ _ _ h => h) (Or.inl ⟨by rfl, ?_⟩) (by assumption) ?_
    rotate_left
    · intro w hSw; (try dsimp only at hSw); go_simp; (try with_reducible rfl)
    try simp only [Act.put, List.setIfInBounds_toArray, List.set_cons_zero, List.set_cons_succ]
    refine wpAnyH_done (by kernel_rfl) ?_ _
    go_wp2_with fail
    all_goals
      go_ret
      exact ⟨by first | rfl | (simp; done), HB2.out⟩
end Go.Proofs.YtclahhkcbkpofaaDoor
/- The beginnings of all characters: eighteen stand for all (plain Lean). -/
namespace Go.Proofs.YtclahhkcbkpofaaDoor
open Sp
/-- The least bytes of a row. -/
def repR (r : List (Int × Int)) (m : Nat) : List Nat := (r.take m).map fun p => p.1.toNat
def fullR : List (List (Int × Int)) := [[(0, 127)], [(194, 223), (128, 191)], [(224, 224), (160, 191), (128, 191)], [(225, 236), (128, 191), (128, 191)], [(237, 237), (128, 159), (128, 191)], [(238, 239), (128, 191), (128, 191)], [(240, 240), (144, 191), (128, 191), (128, 191)], [(241, 243), (128, 191), (128, 191), (128, 191)], [(244, 244), (128, 143), (128, 191), (128, 191)]]
theorem full_rows : allP 0 1114111 = fullR := by decide +kernel
def reps18 : List (List Nat) := fullR.flatMap fun r => (List.range (r.length - 1)).map fun m => repR r (m + 1)
theorem reps_len : reps18.length = 18 := by decide
theorem full_apart : ∀ r ∈ fullR, ∀ r' ∈ fullR, r = r' ∨ ∃ p ∈ r.head?, ∃ p' ∈ r'.head?, p.2 < p'.1 ∨ p'.2 < p.1 := by decide
theorem full_rep : ∀ r ∈ fullR, ∀ m ∈ List.range 4, m < r.length → (repR r m).length = m ∧ (∀ k ∈ List.range m, ∀ p ∈ r[k]?, ∀ c ∈ (repR r m)[k]?, p.1 ≤ (c : Int) ∧ (c : Int) ≤ p.2) := by decide
theorem fit_build : ∀ {q : List (Int × Int)} {u : List Nat}, q.length = u.length → (∀ (k : Nat) p c, q[k]? = some p → u[k]? = some c → p.1 ≤ (c : Int) ∧ (c : Int) ≤ p.2) → fitN q u
  | [], [], _, _ => trivial
  | [], _ :: _, h, _ => by simp at h
  | _ :: _, [], h, _ => by simp at h
  | p :: q, c :: u, h, hk => by
    have h0 := hk 0 p c rfl rfl
    exact ⟨h0.1, h0.2, fit_build (by simpa using h) fun k p' c' hp hc => hk (k + 1) p' c' (by simpa using hp) (by simpa using hc)⟩
theorem rep_fits {r : List (Int × Int)} (hr : r ∈ fullR) {m : Nat} (hm : m < r.length) (h4 : m < 4) : (repR r m).length = m ∧ fitN (r.take m) (repR r m) := by
  obtain ⟨h1, h2⟩ := full_rep r hr m (List.mem_range.2 h4) hm
  refine ⟨h1, fit_build (by rw [h1, List.length_take]; omega) fun k p c hp hc => ?_⟩
  have hk := (List.getElem?_eq_some_iff.1 hc).1
  rw [h1] at hk
  rw [List.getElem?_take_of_lt hk] at hp
  exact h2 k (List.mem_range.2 hk) p hp c hc
/-- Bytes that begin one row begin no other. -/
theorem fit_only {r r' : List (Int × Int)} (hr : r ∈ fullR) (hr' : r' ∈ fullR) {m : Nat} (hm : 0 < m) {u : List Nat} (h : fitN (r.take m) u) (h' : fitN (r'.take m) u) : r = r' := by
  rcases full_apart r hr r' hr' with e | ⟨p, hp, p', hp', hd⟩
  · exact e
  · exfalso
    have g : ∀ {r : List (Int × Int)} {p : Int × Int}, p ∈ r.head? → fitN (r.take m) u → ∃ c : Nat, u[0]? = some c ∧ p.1 ≤ (c : Int) ∧ (c : Int) ≤ p.2 := fun {r p} hp h => by
      have hl := fitN_len h
      cases r with
      | nil => cases hp
      | cons x r =>
        have hx : x = p := by simpa using hp
        subst hx
        obtain ⟨m, rfl⟩ : ∃ k, m = k + 1 := ⟨m - 1, by omega⟩
        rw [List.take_succ_cons] at h hl
        cases u with
        | nil => simp at hl
        | cons c u => exact ⟨c, rfl, h.1, h.2.1⟩
    obtain ⟨c, h1, h2⟩ := g hp h
    obtain ⟨c', h3, h4⟩ := g hp' h'
    rw [h1] at h3
    injection h3 with h3
    subst h3
    omega
theorem mids_same {u v : List Nat} (hl : u.length = v.length) : ∀ {rs : List (List (Int × Int))} {N y : Nat}, (∀ r ∈ rs, fitN (r.take u.length) u ↔ fitN (r.take v.length) v) → (midsP N rs u y ↔ midsP N rs v y)
  | [], _, _, _ => Iff.rfl
  | r :: rs, N, y, h => by
    unfold midsP
    refine or_congr ?_ (mids_same hl fun r hr => h r (List.mem_cons_of_mem _ hr))
    unfold midP
    have h1 := h r (List.mem_cons_self ..)
    rw [hl] at h1 ⊢
    exact and_congr Iff.rfl (and_congr Iff.rfl (and_congr Iff.rfl h1))
theorem mids_some {u : List Nat} {y : Nat} : ∀ {rs : List (List (Int × Int))} {N : Nat}, midsP N rs u y → ∃ r ∈ rs, 0 < u.length ∧ u.length < r.length ∧ fitN (r.take u.length) u
  | [], _, h => h.elim
  | r :: rs, _, h => by
    rcases h with ⟨h1, h2, _, h4⟩ | h
    · exact ⟨r, List.mem_cons_self .., h1, h2, h4⟩
    · obtain ⟨r, hr, h⟩ := mids_some h
      exact ⟨r, List.mem_cons_of_mem _ hr, h⟩
/-- One of eighteen does as well. -/
theorem full_one18 {N0 y0 : Nat} {u : List Nat} (h : midsP N0 (allP 0 1114111) u y0) : ∃ v ∈ reps18, ∀ N y, midsP N (allP 0 1114111) u y ↔ midsP N (allP 0 1114111) v y := by
  rw [full_rows] at h ⊢
  obtain ⟨r, hr, h1, h2, h3⟩ := mids_some h
  have h4 : r.length ≤ 4 := by
    have : ∀ r ∈ fullR, r.length ≤ 4 := by decide
    exact this r hr
  obtain ⟨k1, k2⟩ := rep_fits hr h2 (by omega)
  refine ⟨repR r u.length, List.mem_flatMap.2 ⟨r, hr, List.mem_map.2 ⟨u.length - 1, List.mem_range.2 (by omega), by rw [show u.length - 1 + 1 = u.length by omega]⟩⟩, fun N y => mids_same k1.symm fun r' hr' => ?_⟩
  rw [k1]
  constructor
  · intro h5
    rw [← fit_only hr hr' h1 h3 h5]
    exact k2
  · intro h5
    rw [← fit_only hr hr' h1 k2 h5]
    exact h3
end Go.Proofs.YtclahhkcbkpofaaDoor
/- One character's row (plain Lean). -/
namespace Go.Proofs.YtclahhkcbkpofaaDoor.Sp
theorem one_in {α : Type} {a : α} {L : List α} (h : a ∈ L) (hl : L.length ≤ 1) : L = [a] := by
  match L, h, hl with
  | [x], h, _ => rw [List.mem_singleton.1 h]
  | _ :: _ :: _, _, hl => simp at hl
theorem allP_self {c : Int} (hw : wholeB c = true) : allP c c = [leafC c c] := by
  have hc : 0 ≤ c ∧ c ≤ 1114111 ∧ (c < 55296 ∨ 57343 < c) := of_decide_eq_true hw
  have hp : ∀ {x y : Int}, x ≤ c → c ≤ y → leafC c c ∈ part (max c 0) (min c 1114111) x y := fun {x y} h1 h2 => by
    unfold part
    rw [show max (max c 0) x = c by omega, show min (min c 1114111) y = c by omega, if_pos (by omega), rowsP_leaf (by unfold cutC; simp)]
    exact List.mem_singleton.2 rfl
  refine one_in ?_ (all_one c)
  rw [all_parts0]
  simp only [List.mem_append]
  by_cases h1 : c ≤ 127
  · exact .inl (hp hc.1 h1)
  by_cases h2 : c ≤ 2047
  · exact .inr (.inl (hp (by omega) h2))
  by_cases h3 : c ≤ 55295
  · exact .inr (.inr (.inl (hp (by omega) h3)))
  by_cases h4 : c ≤ 65535
  · exact .inr (.inr (.inr (.inl (hp (by omega) h4))))
  · exact .inr (.inr (.inr (.inr (hp (by omega) hc.2.1))))
theorem fit_zip : ∀ {l : List Int} {u : List Nat}, fitN (l.zip l) u → u = l.map Int.toNat
  | [], [], _ => rfl
  | [], _ :: _, h => h.elim
  | _ :: _, [], h => h.elim
  | x :: l, c :: u, h => by
    have h1 : x ≤ (c : Int) := h.1
    have h2 : (c : Int) ≤ x := h.2.1
    rw [List.map_cons, ← fit_zip h.2.2, show x.toNat = c by omega]
theorem zip_take {l : List Int} : ∀ {m : Nat}, (l.zip l).take m = (l.take m).zip (l.take m) := by
  induction l with
  | nil => intro m; simp
  | cons x l ih =>
    intro m
    cases m with
    | zero => rfl
    | succ m => rw [List.take_succ_cons, List.zip_cons_cons, List.take_succ_cons, List.zip_cons_cons, ih]
/-- Part of one character: its first bytes. -/
theorem mid_letter {c : Int} (hw : wholeB c = true) {N y : Nat} {u : List Nat} (h : midsP N (allP c c) u y) : 0 < u.length ∧ u.length < (encC c).length ∧ u = (encN c).take u.length := by
  rw [allP_self hw] at h
  rcases h with ⟨h1, h2, _, h4⟩ | h
  · have h5 : (leafC c c).length = (encC c).length := by unfold leafC; rw [List.length_zip]; omega
    rw [h5] at h2
    refine ⟨h1, h2, ?_⟩
    unfold leafC at h4
    rw [zip_take] at h4
    have h6 := fit_zip h4
    unfold encN
    rw [← List.map_take]
    exact h6
  · exact h.elim
theorem enc3 {c : Int} (h : c ≤ 65535) : (encC c).length ≤ 3 := by
  unfold encC
  split
  · simp
  · split
    · simp
    · rw [if_pos (by omega)]; simp
end Go.Proofs.YtclahhkcbkpofaaDoor.Sp
/- What fits a row of all characters is one character (plain Lean). -/
namespace Go.Proofs.YtclahhkcbkpofaaDoor
open Sp
theorem fit1 {p : Int × Int} {u : List Nat} (h : fitN [p] u) : ∃ a : Nat, u = [a] ∧ p.1 ≤ (a : Int) ∧ (a : Int) ≤ p.2 := by
  match u, h with
  | [a], h => exact ⟨a, rfl, h.1, h.2.1⟩
  | [], h => exact h.elim
  | _ :: _ :: _, h => exact h.2.2.elim
theorem fit_cons {p : Int × Int} {q : List (Int × Int)} {u : List Nat} (h : fitN (p :: q) u) : ∃ (a : Nat) (t : List Nat), u = a :: t ∧ p.1 ≤ (a : Int) ∧ (a : Int) ≤ p.2 ∧ fitN q t := by
  match u, h with
  | a :: t, h => exact ⟨a, t, rfl, h.1, h.2.1, h.2.2⟩
  | [], h => exact h.elim
theorem full_enc {r : List (Int × Int)} (hr : r ∈ fullR) {u : List Nat} (h : fitN r u) : ∃ c, wholeB c = true ∧ u = encN c := by
  have two : ∀ {x y : Int}, 194 ≤ x → y ≤ 223 → fitN [(x, y), (128, 191)] u → ∃ c, wholeB c = true ∧ u = encN c := fun {x y} hx hy h => by
    obtain ⟨a, t, rfl, h1, h2, h⟩ := fit_cons h
    obtain ⟨b, rfl, h3, h4⟩ := fit1 h
    simp only at h1 h2 h3 h4
    exact ⟨((a : Int) - 192) * 64 + (b - 128), wholeB_yes (by omega), (enc_two (by omega) (by omega) (by omega) (by omega) (by omega)).symm⟩
  have three : ∀ {x y z w : Int}, 224 ≤ x → y ≤ 239 → 128 ≤ z → w ≤ 191 → (∀ a b : Int, x ≤ a → a ≤ y → z ≤ b → b ≤ w → (2048 ≤ ((a - 224) * 64 + (b - 128)) * 64) ∧ (((a - 224) * 64 + (b - 128)) * 64 + 63 < 55296 ∨ 57343 < ((a - 224) * 64 + (b - 128)) * 64)) → fitN [(x, y), (z, w), (128, 191)] u → ∃ c, wholeB c = true ∧ u = encN c := fun {x y z w} hx hy hz hw hh h => by
    obtain ⟨a, t, rfl, h1, h2, h⟩ := fit_cons h
    obtain ⟨b, t, rfl, h3, h4, h⟩ := fit_cons h
    obtain ⟨d, rfl, h5, h6⟩ := fit1 h
    simp only at h1 h2 h3 h4 h5 h6
    have := hh a b h1 h2 h3 h4
    exact ⟨(((a : Int) - 224) * 64 + (b - 128)) * 64 + (d - 128), wholeB_yes (by omega), (enc_three (by omega) (by omega) (by omega) (by omega) (by omega) (by omega) (by omega)).symm⟩
  have four : ∀ {x y z w : Int}, 240 ≤ x → y ≤ 244 → 128 ≤ z → w ≤ 191 → (∀ a b : Int, x ≤ a → a ≤ y → z ≤ b → b ≤ w → 65536 ≤ ((a - 240) * 64 + (b - 128)) * 4096 ∧ ((a - 240) * 64 + (b - 128)) * 4096 + 4095 ≤ 1114111) → fitN [(x, y), (z, w), (128, 191), (128, 191)] u → ∃ c, wholeB c = true ∧ u = encN c := fun {x y z w} hx hy hz hw hh h => by
    obtain ⟨a, t, rfl, h1, h2, h⟩ := fit_cons h
    obtain ⟨b, t, rfl, h3, h4, h⟩ := fit_cons h
    obtain ⟨d, t, rfl, h5, h6, h⟩ := fit_cons h
    obtain ⟨e, rfl, h7, h8⟩ := fit1 h
    simp only at h1 h2 h3 h4 h5 h6 h7 h8
    have := hh a b h1 h2 h3 h4
    exact ⟨((((a : Int) - 240) * 64 + (b - 128)) * 64 + (d - 128)) * 64 + (e - 128), wholeB_yes (by omega), (enc_four (by omega) (by omega) (by omega) (by omega) (by omega) (by omega) (by omega) (by omega) (by omega)).symm⟩
  unfold fullR at hr
  simp only [List.mem_cons, List.not_mem_nil, or_false] at hr
  rcases hr with rfl | rfl | rfl | rfl | rfl | rfl | rfl | rfl | rfl
  · obtain ⟨a, rfl, h1, h2⟩ := fit1 h
    simp only at h1 h2
    exact ⟨(a : Int), wholeB_yes (by omega), (enc_one (by omega)).symm⟩
  · exact two (by omega) (by omega) h
  · exact three (by omega) (by omega) (by omega) (by omega) (fun a b h1 h2 h3 h4 => by omega) h
  · exact three (by omega) (by omega) (by omega) (by omega) (fun a b h1 h2 h3 h4 => by omega) h
  · exact three (by omega) (by omega) (by omega) (by omega) (fun a b h1 h2 h3 h4 => by omega) h
  · exact three (by omega) (by omega) (by omega) (by omega) (fun a b h1 h2 h3 h4 => by omega) h
  · exact four (by omega) (by omega) (by omega) (by omega) (fun a b h1 h2 h3 h4 => by omega) h
  · exact four (by omega) (by omega) (by omega) (by omega) (fun a b h1 h2 h3 h4 => by omega) h
  · exact four (by omega) (by omega) (by omega) (by omega) (fun a b h1 h2 h3 h4 => by omega) h
/-- Ranges of all characters, or of one. -/
def FullOr (e : Ld) : Prop := (e.2.2.1 = 0 ∧ e.2.2.2 = 1114111) ∨ (wholeB e.2.2.1 = true ∧ e.2.2.2 = e.2.2.1)
theorem fit_enc {e : Ld} (he : FullOr e) {u : List Nat} (h : ∃ r ∈ allP e.2.2.1 e.2.2.2, fitN r u) : ∃ c, wholeB c = true ∧ u = encN c := by
  obtain ⟨r, hr, hf⟩ := h
  rcases he with ⟨h1, h2⟩ | ⟨h1, h2⟩
  · rw [h1, h2, full_rows] at hr
    exact full_enc hr hf
  · rw [h2, allP_self h1] at hr
    rw [List.mem_singleton.1 hr] at hf
    exact ⟨_, h1, fit_zip hf⟩
/-- A way's text is one of characters. -/
theorem way_enc {E : Edge} {es : List Ld} (hE : ∀ x t y, E x t y → t = []) (he : ∀ e ∈ es, FullOr e) {x y : Nat} {t : List Nat} (h : Way (orE E (esE es)) x t y) : ∃ l : List Int, (∀ c ∈ l, wholeB c = true) ∧ t = encs l := by
  induction h with
  | nil => exact ⟨[], fun c h => absurd h List.not_mem_nil, rfl⟩
  | @cons x y z t u h1 _ ih =>
    obtain ⟨l, h2, rfl⟩ := ih
    rcases h1 with h1 | ⟨e, h3, _, _, h4⟩
    · rw [hE _ _ _ h1]
      exact ⟨l, h2, rfl⟩
    · obtain ⟨c, h5, rfl⟩ := fit_enc (he e h3) h4
      refine ⟨c :: l, fun d hd => ?_, rfl⟩
      rcases List.mem_cons.1 hd with rfl | hd
      · exact h5
      · exact h2 d hd
end Go.Proofs.YtclahhkcbkpofaaDoor
/- A text against a word's beginnings: the distances near its own length (plain Lean). -/
namespace Go.Proofs.YtclahhkcbkpofaaDoor
open Sp
theorem lev_snoc (a b : List Int) (y : Int) : lev a (b ++ [y]) ≤ lev a b + 1 ∧ lev a b ≤ lev a (b ++ [y]) + 1 := by
  have e1 : lev a (b ++ [y]) = lev a.reverse (y :: b.reverse) := by rw [← lev_rev, List.reverse_append]; rfl
  have e2 := lev_rev a b
  have h1 := lev_ins y a.reverse b.reverse
  have h2 := lev_trans a.reverse (y :: b.reverse) b.reverse
  have h3 := lev_del y b.reverse b.reverse
  rw [lev_self] at h3
  omega
/-- How far from the beginning that is shorter by two, by one, .., longer by two; three for all that is farther. -/
def bandV (a b : List Int) (d : Nat) : Nat := if a.length + d < 2 then 2 - d else min 3 (lev a (b.take (a.length + d - 2)))
def prof (a b : List Int) : List Nat := [bandV a b 0, bandV a b 1, bandV a b 2, bandV a b 3, bandV a b 4]
theorem take_snoc {b : List Int} {j : Nat} (hj : j < b.length) : b.take (j + 1) = b.take j ++ [b[j]] := by
  rw [List.take_add_one, List.getElem?_eq_getElem hj]
  rfl
theorem band_far {a b : List Int} {d : Nat} (hd : d ≤ 4) (hb : a.length + 2 ≤ b.length) : 2 ≤ bandV a b d + d ∧ d ≤ bandV a b d + 2 ∧ bandV a b d ≤ 3 := by
  unfold bandV
  split
  · omega
  · have h := lev_len a (b.take (a.length + d - 2))
    rw [List.length_take, Nat.min_eq_left (by omega)] at h
    omega
theorem band_next {a b : List Int} {d : Nat} (hd : d < 4) (hb : a.length + 2 ≤ b.length) : bandV a b (d + 1) ≤ bandV a b d + 1 ∧ bandV a b d ≤ bandV a b (d + 1) + 1 := by
  unfold bandV
  by_cases h1 : a.length + (d + 1) < 2
  · rw [if_pos h1, if_pos (by omega)]
    omega
  · rw [if_neg h1]
    by_cases h2 : a.length + d < 2
    · rw [if_pos h2, show a.length + (d + 1) - 2 = 0 by omega, List.take_zero, lev_nil2]
      omega
    · rw [if_neg h2, show a.length + (d + 1) - 2 = (a.length + d - 2) + 1 by omega, take_snoc (by omega)]
      have := lev_snoc a (b.take (a.length + d - 2)) (b[a.length + d - 2]'(by omega))
      omega
def near1 (x y : Nat) : Bool := decide (x ≤ y + 1) && decide (y ≤ x + 1)
def vecs : List (List Nat) := [2, 3].flatMap fun a => [1, 2, 3].flatMap fun b => [0, 1, 2, 3].flatMap fun c => [1, 2, 3].flatMap fun d => [2, 3].map fun e => [a, b, c, d, e]
def okV : List Nat → Bool
  | [a, b, c, d, e] => near1 a b && near1 b c && near1 c d && near1 d e
  | _ => false
def V51 : List (List Nat) := vecs.filter okV
def smallV (v : List Nat) : Bool := v.any fun x => decide (x ≤ 1)
theorem V51_len : V51.length = 51 := by decide +kernel
theorem V51_small : (V51.filter smallV).length = 19 := by decide +kernel
theorem prof_in {a b : List Int} (hb : a.length + 2 ≤ b.length) : prof a b ∈ V51 := by
  have f0 := band_far (a := a) (b := b) (d := 0) (by omega) hb
  have f1 := band_far (a := a) (b := b) (d := 1) (by omega) hb
  have f2 := band_far (a := a) (b := b) (d := 2) (by omega) hb
  have f3 := band_far (a := a) (b := b) (d := 3) (by omega) hb
  have f4 := band_far (a := a) (b := b) (d := 4) (by omega) hb
  have n0 := band_next (a := a) (b := b) (d := 0) (by omega) hb
  have n1 := band_next (a := a) (b := b) (d := 1) (by omega) hb
  have n2 := band_next (a := a) (b := b) (d := 2) (by omega) hb
  have n3 := band_next (a := a) (b := b) (d := 3) (by omega) hb
  unfold prof
  generalize bandV a b 0 = x0 at *
  generalize bandV a b 1 = x1 at *
  generalize bandV a b 2 = x2 at *
  generalize bandV a b 3 = x3 at *
  generalize bandV a b 4 = x4 at *
  refine List.mem_filter.2 ⟨?_, ?_⟩
  · unfold vecs
    refine List.mem_flatMap.2 ⟨x0, ?_, List.mem_flatMap.2 ⟨x1, ?_, List.mem_flatMap.2 ⟨x2, ?_, List.mem_flatMap.2 ⟨x3, ?_, List.mem_map.2 ⟨x4, ?_, rfl⟩⟩⟩⟩⟩
    · simp; omega
    · simp; omega
    · simp; omega
    · simp; omega
    · simp; omega
  · unfold okV near1
    simp only [Bool.and_eq_true, decide_eq_true_eq]
    omega
/-- The states behind the head, of a length and a profile. -/
def setV (E X n i : Nat) (v : List Nat) (y : Nat) : Prop := ∃ j k d x, y = atS E j k ∧ k ≤ E ∧ X ≤ j ∧ j ≤ n ∧ v[d]? = some x ∧ j - X + 2 = i + d ∧ x ≤ k ∧ (i = 0 ∨ j = X → k = x)
theorem prof_at (a b : List Int) {d : Nat} (hd : d ≤ 4) : (prof a b)[d]? = some (bandV a b d) := by
  unfold prof
  match d, hd with
  | 0, _ => rfl
  | 1, _ => rfl
  | 2, _ => rfl
  | 3, _ => rfl
  | 4, _ => rfl
/-- What is met behind the head is told by the length and the profile. -/
theorem met_prof {f : List Int} {E X : Nat} (hE : E ≤ 2) (hX : X ≤ f.length) (a w : List Int) (y : Nat) : (∃ j k, y = atS E j k ∧ k ≤ E ∧ Fw f X X a j k) ↔ setV E X f.length a.length (prof a (f.drop X ++ w)) y := by
  have hpre : ∀ {j : Nat}, j ≤ f.length → (f.drop X ++ w).take (j - X) = (f.drop X).take (j - X) := fun {j} hj => by
    rw [List.take_append_of_le_length (by rw [List.length_drop]; omega)]
  have hlen : ∀ {j : Nat}, j ≤ f.length → ((f.drop X).take (j - X)).length = j - X := fun {j} hj => by
    rw [List.length_take, List.length_drop]; omega
  constructor
  · rintro ⟨j, k, rfl, hk, h⟩
    obtain ⟨h1, h2, h3⟩ := (fw_ex (Nat.le_refl X) hX).1 h
    obtain ⟨h4, h5⟩ := (ex_iff (by omega)).1 h3
    have h6 := lev_len a ((f.drop X).take (j - X))
    rw [hlen h2] at h6
    have hb : bandV a (f.drop X ++ w) (j - X + 2 - a.length) = min 3 (lev a ((f.drop X).take (j - X))) := by
      unfold bandV
      rw [if_neg (by omega), show a.length + (j - X + 2 - a.length) - 2 = j - X by omega, hpre h2]
    refine ⟨j, k, j - X + 2 - a.length, _, rfl, hk, h1, h2, prof_at _ _ (by omega), by omega, by rw [hb]; omega, fun e => ?_⟩
    rw [hb]
    have h7 := h5 (by
      rcases e with e | e
      · exact .inl (List.length_eq_zero_iff.1 e)
      · right
        rw [e, Nat.sub_self, List.take_zero])
    omega
  · rintro ⟨j, k, d, x, rfl, hk, h1, h2, h3, h4, h5, h6⟩
    have hd : d ≤ 4 := by
      have := (List.getElem?_eq_some_iff.1 h3).1
      have e : (prof a (f.drop X ++ w)).length = 5 := rfl
      omega
    rw [prof_at _ _ hd] at h3
    injection h3 with h3
    have hb : bandV a (f.drop X ++ w) d = min 3 (lev a ((f.drop X).take (j - X))) := by
      unfold bandV
      rw [if_neg (by omega), show a.length + d - 2 = j - X by omega, hpre h2]
    rw [hb] at h3
    refine ⟨j, k, rfl, hk, (fw_ex (Nat.le_refl X) hX).2 ⟨h1, h2, (ex_iff (by omega)).2 ⟨by omega, fun e => ?_⟩⟩⟩
    have h7 := h6 (by
      rcases e with e | e
      · left; rw [e]; rfl
      · right
        have := congrArg List.length e
        rw [hlen h2, List.length_nil] at this
        omega)
    omega
end Go.Proofs.YtclahhkcbkpofaaDoor
