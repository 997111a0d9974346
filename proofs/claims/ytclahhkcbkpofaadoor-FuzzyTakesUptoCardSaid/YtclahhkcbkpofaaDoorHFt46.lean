/- Fuzzy's refusals, and the reference's May. -/
import Derived.Test.YtclahhkcbkpofaaDoorHFt45
import Derived.Test.YtclahhkcbkpofaaDoorHFt1
import Derived.Test.YtclahhkcbkpofaaDoorHFt22
namespace Go.Proofs.YtclahhkcbkpofaaDoor
open Go.RowKit
open Sp
set_option linter.unusedVariables false
/-- Why a word with edits is refused. -/
def FzE (t : List UInt8) (E X z : Int) : Prop := (∃ l, Dec (bytesN t) l ∧ letsE (l.map foldI) [] = z ∧ z ≠ 0) ∨ (z = 7 ∧ ∀ l, ¬ Dec (bytesN t) l) ∨ (z = 1 ∧ ∃ l, Dec (bytesN t) l ∧ letsE (l.map foldI) [] = 0 ∧ ¬ (0 ≤ E ∧ E ≤ 2 ∧ 0 ≤ X ∧ X ≤ (l.length : Int)))
theorem FzE.one {t : List UInt8} {E X z z' : Int} (h : FzE t E X z) (h' : FzE t E X z') : z = z' := by
  rcases h with ⟨l, h1, h2, h3⟩ | ⟨h1, h2⟩ | ⟨h1, l, h2, h3, h4⟩ <;> rcases h' with ⟨l', k1, k2, k3⟩ | ⟨k1, k2⟩ | ⟨k1, l', k2, k3, k4⟩
  · rw [h1.inj k1] at h2; exact h2.symm.trans k2
  · exact absurd h1 (k2 l)
  · rw [h1.inj k2] at h2; exact absurd (h2.symm.trans k3) h3
  · exact absurd k1 (h2 l')
  · rw [h1, k1]
  · exact absurd k2 (h2 l')
  · rw [← h2.inj k1] at k2; exact absurd (k2.symm.trans h3) k3
  · exact absurd h2 (k2 l)
  · rw [h1, k1]
theorem FzE.no {t : List UInt8} {E X z : Int} (h : FzE t E X z) {l : List Int} (hd : Dec (bytesN t) l) (hl : letsE (l.map foldI) [] = 0) (hb : 0 ≤ E ∧ E ≤ 2 ∧ 0 ≤ X ∧ X ≤ (l.length : Int)) : False := by
  rcases h with ⟨l', h1, h2, h3⟩ | ⟨h1, h2⟩ | ⟨h1, l', h2, h3, h4⟩
  · rw [h1.inj hd] at h2; exact h3 (h2.symm.trans hl)
  · exact h2 l hd
  · rw [h2.inj hd] at h4; exact h4 hb
/-- What May answers. -/
def MayR (w : World) (t : List UInt8) (E X : Int) : Ending → World → Prop := fun e w' => Below w.heap.size w w' ∧
  ((∃ v l, e = .returned (.tuple #[v, .int .i64 0]) ∧ Dec (bytesN t) l ∧ letsE (l.map foldI) [] = 0 ∧ (0 ≤ E ∧ E ≤ 2 ∧ 0 ≤ X ∧ X ≤ (l.length : Int)) ∧ w'.ownsRow w.heap.size 3 1 v l.length ((l.map foldI).map (.int .i64))) ∨
   (∃ z, e = .returned (.tuple #[.slice none 0 0, .int .i64 z]) ∧ z ≠ 0 ∧ FzE t E X z))
set_option maxRecDepth 100000 in
set_option maxHeartbeats 8000000 in
theorem fmay_any (w : World) (t : List UInt8) (ht : t.length ≤ 17592186044414) (E X : Int) : Calls Tryd.prog 25 #[.string ⟨t.toArray⟩, .int .i64 E, .int .i64 X] w (MayR w t E X) := by
  have HD := Lib.hid (rletters_any w t [] ht (by simp))
  go_enter Tryd.func25, Tryd.ntmps25
  go_wp2_with fail
  refine HD.out.mono ?_
  rintro e w1 ⟨hb1, ⟨v, l, rfl, hd, hl, ho⟩ | ⟨l, z, rfl, hz, hd, hl⟩ | ⟨rfl, hno⟩⟩
  · obtain ⟨A, cp, rfl, hcp⟩ := own_shape ho
    have HB1 := Lib.hid hb1
    have HD1 := Lib.hid hd
    have HL1 := Lib.hid hl
    have HO1 := Lib.hid ho
    have hz16 := (lets_zero hl).1
    rw [List.length_map] at hz16
    obtain ⟨n, hn⟩ : ∃ n, l.length = n := ⟨_, rfl⟩
    have HN := Lib.hid hn
    rw [hn] at hz16 hcp ⊢
    clear hb1 hd hl ho hn
    by_cases b0 : E < 0
    · have r0 : decide (E < 0) = true := decide_eq_true b0
      have HF : Hid (FzE t E X 1) := .inr (.inr ⟨rfl, l, HD1.out, HL1.out, by rw [HN.out]; omega⟩)
      go_wp2_with fail
      go_ret2
      exact ⟨HB1.out, .inr ⟨1, rfl, by decide, HF.out⟩⟩
    by_cases b1 : 2 < E
    · have r0 : decide (E < 0) = false := decide_eq_false b0
      have r1 : decide (2 < E) = true := decide_eq_true b1
      have HF : Hid (FzE t E X 1) := .inr (.inr ⟨rfl, l, HD1.out, HL1.out, by rw [HN.out]; omega⟩)
      go_wp2_with fail
      go_ret2
      exact ⟨HB1.out, .inr ⟨1, rfl, by decide, HF.out⟩⟩
    by_cases b2 : X < 0
    · have r0 : decide (E < 0) = false := decide_eq_false b0
      have r1 : decide (2 < E) = false := decide_eq_false b1
      have r2 : decide (X < 0) = true := decide_eq_true b2
      have HF : Hid (FzE t E X 1) := .inr (.inr ⟨rfl, l, HD1.out, HL1.out, by rw [HN.out]; omega⟩)
      go_wp2_with fail
      go_ret2
      exact ⟨HB1.out, .inr ⟨1, rfl, by decide, HF.out⟩⟩
    by_cases b3 : (n : Int) < X
    · have r0 : decide (E < 0) = false := decide_eq_false b0
      have r1 : decide (2 < E) = false := decide_eq_false b1
      have r2 : decide (X < 0) = false := decide_eq_false b2
      have r3 : decide ((n : Int) < X) = true := decide_eq_true b3
      have HF : Hid (FzE t E X 1) := .inr (.inr ⟨rfl, l, HD1.out, HL1.out, by rw [HN.out]; omega⟩)
      go_wp2_with fail
      go_ret2
      exact ⟨HB1.out, .inr ⟨1, rfl, by decide, HF.out⟩⟩
    have r0 : decide (E < 0) = false := decide_eq_false b0
    have r1 : decide (2 < E) = false := decide_eq_false b1
    have r2 : decide (X < 0) = false := decide_eq_false b2
    have r3 : decide ((n : Int) < X) = false := decide_eq_false b3
    have HOK : Hid (0 ≤ E ∧ E ≤ 2 ∧ 0 ≤ X ∧ X ≤ (l.length : Int)) := by show _ ∧ _ ∧ _ ∧ _; rw [HN.out]; omega
    go_wp2_with fail
    go_ret2
    exact ⟨HB1.out, .inl ⟨_, l, rfl, HD1.out, HL1.out, HOK.out, by rw [HN.out]; have h := HO1.out; rw [HN.out] at h; exact h⟩⟩
  · have HB1 := Lib.hid hb1
    have q0 : (z == 0) = false := by rw [beq_eq_false_iff_ne]; exact hz
    have HZ := Lib.hid hz
    have HF : Hid (FzE t E X z) := .inl ⟨l, hd, hl, hz⟩
    clear hb1 hd hl hz
    go_wp2_with fail
    go_ret2
    exact ⟨HB1.out, .inr ⟨z, rfl, HZ.out, HF.out⟩⟩
  · have HB1 := Lib.hid hb1
    have HF : Hid (FzE t E X 7) := .inr (.inl ⟨rfl, hno⟩)
    clear hb1 hno
    go_wp2_with fail
    go_ret2
    exact ⟨HB1.out, .inr ⟨7, rfl, by decide, HF.out⟩⟩
set_option maxRecDepth 100000 in
set_option maxHeartbeats 8000000 in
/-- Fuzzy refuses. -/
theorem fuzzy_bad (w : World) (t : List UInt8) (ht : t.length ≤ 17592186044414) (E X z : Int) (hz : FzE t E X z) : Calls Tryd.prog 24 #[.string ⟨t.toArray⟩, .int .i64 E, .int .i64 X] w fun e w' => Below w.heap.size w w' ∧ e = .returned (.tuple #[.slice none 0 0, .int .i64 z]) := by
  have HD := Lib.hid (letters_any w t [] ht (by simp))
  have HZZ := Lib.hid hz
  clear hz
  go_enter Tryd.func24, Tryd.ntmps24
  go_wp2_with fail
  refine HD.out.mono ?_
  rintro e w1 ⟨hb1, ⟨v, l, rfl, hd, hl, ho⟩ | ⟨l, y, rfl, hy, hd, hl⟩ | ⟨rfl, hno⟩⟩
  · obtain ⟨A, cp, rfl, hcp⟩ := own_shape ho
    have HB1 := Lib.hid hb1
    have HD1 := Lib.hid hd
    have HL1 := Lib.hid hl
    have hz16 := (lets_zero hl).1
    rw [List.length_map] at hz16
    obtain ⟨n, hn⟩ : ∃ n, l.length = n := ⟨_, rfl⟩
    have HN := Lib.hid hn
    rw [hn] at hz16 hcp ⊢
    clear hb1 hd hl ho hn
    by_cases b0 : E < 0
    · have r0 : decide (E < 0) = true := decide_eq_true b0
      obtain rfl : z = 1 := HZZ.out.one (.inr (.inr ⟨rfl, l, HD1.out, HL1.out, by rw [HN.out]; omega⟩))
      go_wp2_with fail
      go_ret2
      exact ⟨HB1.out, rfl⟩
    by_cases b1 : 2 < E
    · have r0 : decide (E < 0) = false := decide_eq_false b0
      have r1 : decide (2 < E) = true := decide_eq_true b1
      obtain rfl : z = 1 := HZZ.out.one (.inr (.inr ⟨rfl, l, HD1.out, HL1.out, by rw [HN.out]; omega⟩))
      go_wp2_with fail
      go_ret2
      exact ⟨HB1.out, rfl⟩
    by_cases b2 : X < 0
    · have r0 : decide (E < 0) = false := decide_eq_false b0
      have r1 : decide (2 < E) = false := decide_eq_false b1
      have r2 : decide (X < 0) = true := decide_eq_true b2
      obtain rfl : z = 1 := HZZ.out.one (.inr (.inr ⟨rfl, l, HD1.out, HL1.out, by rw [HN.out]; omega⟩))
      go_wp2_with fail
      go_ret2
      exact ⟨HB1.out, rfl⟩
    by_cases b3 : (n : Int) < X
    · have r0 : decide (E < 0) = false := decide_eq_false b0
      have r1 : decide (2 < E) = false := decide_eq_false b1
      have r2 : decide (X < 0) = false := decide_eq_false b2
      have r3 : decide ((n : Int) < X) = true := decide_eq_true b3
      obtain rfl : z = 1 := HZZ.out.one (.inr (.inr ⟨rfl, l, HD1.out, HL1.out, by rw [HN.out]; omega⟩))
      go_wp2_with fail
      go_ret2
      exact ⟨HB1.out, rfl⟩
    have r0 : decide (E < 0) = false := decide_eq_false b0
    have r1 : decide (2 < E) = false := decide_eq_false b1
    have r2 : decide (X < 0) = false := decide_eq_false b2
    have r3 : decide ((n : Int) < X) = false := decide_eq_false b3
    exact (HZZ.out.no HD1.out HL1.out (by rw [HN.out]; omega)).elim
  · have HB1 := Lib.hid hb1
    have q0 : (y == 0) = false := by rw [beq_eq_false_iff_ne]; exact hy
    obtain rfl : z = y := HZZ.out.one (.inl ⟨l, hd, hl, hy⟩)
    clear hb1 hd hl hy
    go_wp2_with fail
    go_ret2
    exact ⟨HB1.out, rfl⟩
  · have HB1 := Lib.hid hb1
    obtain rfl : z = 7 := HZZ.out.one (.inr (.inl ⟨rfl, hno⟩))
    clear hb1 hno
    go_wp2_with fail
    go_ret2
    exact ⟨HB1.out, rfl⟩
end Go.Proofs.YtclahhkcbkpofaaDoor
/- How far two lists are from one another (plain Lean): the distance from the ends and from the beginnings; it is a distance. -/
namespace Go.Proofs.YtclahhkcbkpofaaDoor
/-- From the beginnings on. -/
def lev : List Int → List Int → Nat
  | [], b => b.length
  | a :: u1, [] => (a :: u1).length
  | a :: u1, b :: v1 => min (lev u1 v1 + if a = b then 0 else 1) (min (lev u1 (b :: v1) + 1) (lev (a :: u1) v1 + 1))
termination_by a b => a.length + b.length
theorem lev_nil (b : List Int) : lev [] b = b.length := by rw [lev]
theorem lev_nil2 (a : List Int) : lev a [] = a.length := by
  cases a with
  | nil => rw [lev]
  | cons a u1 => rw [lev]
theorem lev_cons (a b : Int) (u1 v1 : List Int) : lev (a :: u1) (b :: v1) = min (lev u1 v1 + if a = b then 0 else 1) (min (lev u1 (b :: v1) + 1) (lev (a :: u1) v1 + 1)) := by rw [lev]
/-- One list made of another, in so many steps. -/
inductive Al : List Int → List Int → Nat → Prop
  | nil : Al [] [] 0
  | del {x : Int} {a b : List Int} {n : Nat} (h : Al a b n) : Al (x :: a) b (n + 1)
  | ins {y : Int} {a b : List Int} {n : Nat} (h : Al a b n) : Al a (y :: b) (n + 1)
  | sub {x y : Int} {a b : List Int} {n : Nat} (h : Al a b n) : Al (x :: a) (y :: b) (n + if x = y then 0 else 1)
theorem al_ins : ∀ b : List Int, Al [] b b.length
  | [] => .nil
  | _ :: b => .ins (al_ins b)
theorem al_del : ∀ a : List Int, Al a [] a.length
  | [] => .nil
  | _ :: a => .del (al_del a)
theorem lev_al : ∀ a b : List Int, Al a b (lev a b)
  | [], b => by rw [lev_nil]; exact al_ins b
  | a :: u1, [] => by rw [lev_nil2]; exact al_del _
  | a :: u1, b :: v1 => by
    have h1 := lev_al u1 v1
    have h2 := lev_al u1 (b :: v1)
    have h3 := lev_al (a :: u1) v1
    rw [lev_cons]
    have h4 : Al (a :: u1) (b :: v1) (lev u1 v1 + if a = b then 0 else 1) := .sub h1
    have h5 : Al (a :: u1) (b :: v1) (lev u1 (b :: v1) + 1) := .del h2
    have h6 : Al (a :: u1) (b :: v1) (lev (a :: u1) v1 + 1) := .ins h3
    rcases Nat.le_total (lev u1 v1 + if a = b then 0 else 1) (min (lev u1 (b :: v1) + 1) (lev (a :: u1) v1 + 1)) with h | h
    · rw [Nat.min_eq_left h]; exact h4
    · rw [Nat.min_eq_right h]
      rcases Nat.le_total (lev u1 (b :: v1) + 1) (lev (a :: u1) v1 + 1) with h | h
      · rw [Nat.min_eq_left h]; exact h5
      · rw [Nat.min_eq_right h]; exact h6
termination_by a b => a.length + b.length
theorem lev_del (x : Int) (a b : List Int) : lev (x :: a) b ≤ lev a b + 1 := by
  cases b with
  | nil => rw [lev_nil2, lev_nil2]; simp
  | cons y b => rw [lev_cons]; omega
theorem lev_ins (y : Int) (a b : List Int) : lev a (y :: b) ≤ lev a b + 1 := by
  cases a with
  | nil => rw [lev_nil, lev_nil]; simp
  | cons x a => rw [lev_cons]; omega
theorem lev_least {a b : List Int} {n : Nat} (h : Al a b n) : lev a b ≤ n := by
  induction h with
  | nil => rw [lev_nil]; exact Nat.le_refl _
  | @del x a b n _ ih => have := lev_del x a b; omega
  | @ins y a b n _ ih => have := lev_ins y a b; omega
  | @sub x y a b n _ ih => rw [lev_cons]; omega
theorem Al.app {a b c d : List Int} {n m : Nat} (h : Al a b n) (h' : Al c d m) : Al (a ++ c) (b ++ d) (n + m) := by
  induction h with
  | nil => rw [Nat.zero_add]; exact h'
  | @del x a b n _ ih => rw [show n + 1 + m = n + m + 1 by omega]; exact .del ih
  | @ins y a b n _ ih => rw [show n + 1 + m = n + m + 1 by omega]; exact .ins ih
  | @sub x y a b n _ ih => rw [show (n + if x = y then 0 else 1) + m = n + m + if x = y then 0 else 1 by omega]; exact .sub ih
theorem Al.rev {a b : List Int} {n : Nat} (h : Al a b n) : Al a.reverse b.reverse n := by
  induction h with
  | nil => exact .nil
  | @del x a b n _ ih =>
    have := ih.app (Al.del (x := x) Al.nil)
    rw [List.append_nil] at this
    rw [List.reverse_cons]
    exact this
  | @ins y a b n _ ih =>
    have := ih.app (Al.ins (y := y) Al.nil)
    rw [List.append_nil] at this
    rw [List.reverse_cons]
    exact this
  | @sub x y a b n _ ih =>
    have := ih.app (Al.sub (x := x) (y := y) Al.nil)
    rw [Nat.zero_add] at this
    rw [List.reverse_cons, List.reverse_cons]
    exact this
/-- From the ends or from the beginnings: the same. -/
theorem lev_rev (a b : List Int) : lev a.reverse b.reverse = lev a b := by
  have h1 := lev_least (lev_al a b).rev
  have h2 := lev_least (lev_al a.reverse b.reverse).rev
  rw [List.reverse_reverse, List.reverse_reverse] at h2
  omega
/-! ### A distance -/
theorem Al.symm {a b : List Int} {n : Nat} (h : Al a b n) : Al b a n := by
  induction h with
  | nil => exact .nil
  | del _ ih => exact .ins ih
  | ins _ ih => exact .del ih
  | @sub x y a b n _ ih =>
    have := Al.sub (x := y) (y := x) ih
    rw [show (if y = x then 0 else 1) = (if x = y then 0 else 1 : Nat) by
      by_cases e : x = y
      · rw [if_pos e, if_pos e.symm]
      · rw [if_neg e, if_neg fun h => e h.symm]] at this
    exact this
theorem lev_symm (a b : List Int) : lev a b = lev b a := by
  have h1 := lev_least (lev_al a b).symm
  have h2 := lev_least (lev_al b a).symm
  omega
theorem lev_self : ∀ a : List Int, lev a a = 0
  | [] => by rw [lev_nil]; rfl
  | a :: u1 => by
    have := lev_self u1
    rw [lev_cons, if_pos rfl]
    omega
theorem Al.zero {a b : List Int} {n : Nat} (h : Al a b n) : n = 0 → a = b := by
  induction h with
  | nil => exact fun _ => rfl
  | del _ _ => intro h; omega
  | ins _ _ => intro h; omega
  | @sub x y a b n _ ih =>
    intro h
    by_cases e : x = y
    · rw [e, ih (by omega)]
    · rw [if_neg e] at h; omega
/-- Never more than by way of a third. -/
theorem al_trans : ∀ {a b : List Int} {n : Nat}, Al a b n → ∀ {c : List Int} {m : Nat}, Al b c m → ∃ k, k ≤ n + m ∧ Al a c k := by
  intro a b n h
  induction h with
  | nil => exact fun {c m} h => ⟨m, by omega, h⟩
  | @del x a b n _ ih =>
    intro c m h'
    obtain ⟨k, h1, h2⟩ := ih h'
    exact ⟨k + 1, by omega, .del h2⟩
  | @ins y a b n h ih =>
    intro c m h'
    generalize hb : y :: b = yb at h'
    induction h' with
    | nil => cases hb
    | @del z b' c' m h2 _ =>
      injection hb with e1 e2
      subst e1 e2
      obtain ⟨k, h3, h4⟩ := ih h2
      exact ⟨k, by omega, h4⟩
    | @ins z b' c' m h2 ih2 =>
      obtain ⟨k, h3, h4⟩ := ih2 hb
      exact ⟨k + 1, by omega, .ins h4⟩
    | @sub z v b' c' m h2 _ =>
      injection hb with e1 e2
      subst e1 e2
      obtain ⟨k, h3, h4⟩ := ih h2
      exact ⟨k + 1, by omega, .ins h4⟩
  | @sub x y a b n h ih =>
    intro c m h'
    generalize hb : y :: b = yb at h'
    induction h' with
    | nil => cases hb
    | @del z b' c' m h2 _ =>
      injection hb with e1 e2
      subst e1 e2
      obtain ⟨k, h3, h4⟩ := ih h2
      exact ⟨k + 1, by omega, .del h4⟩
    | @ins z b' c' m h2 ih2 =>
      obtain ⟨k, h3, h4⟩ := ih2 hb
      exact ⟨k + 1, by omega, .ins h4⟩
    | @sub z v b' c' m h2 _ =>
      injection hb with e1 e2
      subst e1 e2
      obtain ⟨k, h3, h4⟩ := ih h2
      refine ⟨k + if x = v then 0 else 1, ?_, .sub h4⟩
      by_cases e1 : x = y
      · subst e1
        omega
      · rw [if_neg e1]
        split <;> omega
theorem lev_trans (a b c : List Int) : lev a c ≤ lev a b + lev b c := by
  obtain ⟨k, h1, h2⟩ := al_trans (lev_al a b) (lev_al b c)
  have := lev_least h2
  omega
theorem Al.len {a b : List Int} {n : Nat} (h : Al a b n) : a.length ≤ b.length + n ∧ b.length ≤ a.length + n := by
  induction h with
  | nil => simp
  | del _ ih => simp only [List.length_cons]; omega
  | ins _ ih => simp only [List.length_cons]; omega
  | sub _ ih => simp only [List.length_cons]; omega
theorem lev_len (a b : List Int) : a.length ≤ b.length + lev a b ∧ b.length ≤ a.length + lev a b := (lev_al a b).len
theorem lev_max : ∀ a b : List Int, lev a b ≤ max a.length b.length
  | [], b => by rw [lev_nil]; simp
  | a :: u1, [] => by rw [lev_nil2]; simp
  | a :: u1, b :: v1 => by
    have := lev_max u1 v1
    rw [lev_cons]
    simp only [List.length_cons]
    split <;> omega
/-! ### By beginnings, u1 a row is made -/
/-- What the row says at k when i characters are done. -/
def levB (a b : List Int) (i k : Nat) : Nat := lev (a.take i).reverse (b.take k).reverse
theorem levB_left (a b : List Int) (k : Nat) (hk : k ≤ b.length) : levB a b 0 k = k := by
  unfold levB
  rw [List.take_zero, List.reverse_nil, lev_nil, List.length_reverse, List.length_take]
  omega
theorem levB_top (a b : List Int) (i : Nat) (hi : i ≤ a.length) : levB a b i 0 = i := by
  unfold levB
  rw [List.take_zero, List.reverse_nil, lev_nil2, List.length_reverse, List.length_take]
  omega
theorem levB_step {a b : List Int} {i k : Nat} {x y : Int} (hx : a[i]? = some x) (hy : b[k]? = some y) : levB a b (i + 1) (k + 1) = min (levB a b i k + if x = y then 0 else 1) (min (levB a b i (k + 1) + 1) (levB a b (i + 1) k + 1)) := by
  obtain ⟨hi, rfl⟩ := List.getElem?_eq_some_iff.1 hx
  obtain ⟨hk, rfl⟩ := List.getElem?_eq_some_iff.1 hy
  unfold levB
  rw [List.take_succ_eq_append_getElem hi, List.take_succ_eq_append_getElem hk, List.reverse_append, List.reverse_append]
  exact lev_cons _ _ _ _
theorem levB_all (a b : List Int) : levB a b a.length b.length = lev a b := by
  unfold levB
  rw [List.take_length, List.take_length, lev_rev]
theorem lev_drop {a b : List Int} {i k : Nat} {x y : Int} (hx : a[i]? = some x) (hy : b[k]? = some y) : lev (a.drop i) (b.drop k) = min (lev (a.drop (i + 1)) (b.drop (k + 1)) + if x = y then 0 else 1) (min (lev (a.drop (i + 1)) (b.drop k) + 1) (lev (a.drop i) (b.drop (k + 1)) + 1)) := by
  obtain ⟨hi, rfl⟩ := List.getElem?_eq_some_iff.1 hx
  obtain ⟨hk, rfl⟩ := List.getElem?_eq_some_iff.1 hy
  rw [List.drop_eq_getElem_cons hi, List.drop_eq_getElem_cons hk]
  exact lev_cons _ _ _ _
end Go.Proofs.YtclahhkcbkpofaaDoor
/- A word with edits: texts by how many edits, and the automaton's ways (plain Lean). -/
namespace Go.Proofs.YtclahhkcbkpofaaDoor
open Sp
/-- A text made of a word by just so many edits; a letter may be put in its own place. -/
inductive Ex : List Int → List Int → Nat → Prop
  | nil : Ex [] [] 0
  | del {x : Int} {a b : List Int} {n : Nat} (h : Ex a b n) : Ex (x :: a) b (n + 1)
  | ins {y : Int} {a b : List Int} {n : Nat} (h : Ex a b n) : Ex a (y :: b) (n + 1)
  | eq {x : Int} {a b : List Int} {n : Nat} (h : Ex a b n) : Ex (x :: a) (x :: b) n
  | sub {x y : Int} {a b : List Int} {n : Nat} (h : Ex a b n) : Ex (x :: a) (y :: b) (n + 1)
theorem Al.ex {a b : List Int} {n : Nat} (h : Al a b n) : Ex a b n := by
  induction h with
  | nil => exact .nil
  | del _ ih => exact .del ih
  | ins _ ih => exact .ins ih
  | @sub x y a b n _ ih =>
    by_cases e : x = y
    · subst e
      rw [if_pos rfl]
      exact .eq ih
    · rw [if_neg e]
      exact .sub ih
theorem Ex.least {a b : List Int} {n : Nat} (h : Ex a b n) : lev a b ≤ n := by
  induction h with
  | nil => rw [lev_nil]; exact Nat.le_refl _
  | @del x a b n _ ih => have := lev_del x a b; omega
  | @ins y a b n _ ih => have := lev_ins y a b; omega
  | @eq x a b n _ ih => rw [lev_cons, if_pos rfl]; omega
  | @sub x y a b n _ ih => rw [lev_cons]; split <;> omega
theorem ex_lev (a b : List Int) : Ex a b (lev a b) := (lev_al a b).ex
theorem Ex.most {a b : List Int} {n : Nat} (h : Ex a b n) : n ≤ a.length + b.length := by
  induction h with
  | nil => exact Nat.le_refl _
  | del _ ih => rw [List.length_cons]; omega
  | ins _ ih => rw [List.length_cons]; omega
  | eq _ ih => rw [List.length_cons, List.length_cons]; omega
  | sub _ ih => rw [List.length_cons, List.length_cons]; omega
theorem ex_nil {b : List Int} {k : Nat} (h : Ex [] b k) : k = b.length := by
  have h1 := h.least
  have h2 := h.most
  rw [lev_nil] at h1
  simp at h2
  omega
theorem ex_nil2 {a : List Int} {k : Nat} (h : Ex a [] k) : k = a.length := by
  have h1 := h.least
  have h2 := h.most
  rw [lev_nil2] at h1
  simp at h2
  omega
theorem Ex.up {a b : List Int} {k : Nat} (h : Ex a b k) : a ≠ [] → b ≠ [] → k < a.length + b.length → Ex a b (k + 1) := by
  induction h with
  | nil => exact fun h => absurd rfl h
  | @del x a b n h ih =>
    intro _ hb hk
    rw [List.length_cons] at hk
    by_cases ha : a = []
    · subst ha
      have := ex_nil h
      simp at hk
      omega
    · exact .del (ih ha hb (by omega))
  | @ins y a b n h ih =>
    intro ha _ hk
    rw [List.length_cons] at hk
    by_cases hb : b = []
    · subst hb
      have := ex_nil2 h
      simp at hk
      omega
    · exact .ins (ih ha hb (by omega))
  | eq h _ => exact fun _ _ _ => .sub h
  | sub h _ => exact fun _ _ _ => .del (.ins h)
/-- How many edits may be made. -/
theorem ex_iff {a b : List Int} {k : Nat} (hk : k ≤ 2) : Ex a b k ↔ lev a b ≤ k ∧ (a = [] ∨ b = [] → k = lev a b) := by
  constructor
  · intro h
    refine ⟨h.least, ?_⟩
    rintro (rfl | rfl)
    · rw [lev_nil]; exact ex_nil h
    · rw [lev_nil2]; exact ex_nil2 h
  · rintro ⟨h1, h2⟩
    by_cases e : a = [] ∨ b = []
    · rw [h2 e]; exact ex_lev a b
    · have ha : a ≠ [] := fun h => e (.inl h)
      have hb : b ≠ [] := fun h => e (.inr h)
      have l1 := List.length_pos_iff.2 ha
      have l2 := List.length_pos_iff.2 hb
      have key : ∀ d, lev a b + d ≤ 2 → Ex a b (lev a b + d) := fun d => by
        induction d with
        | zero => exact fun _ => ex_lev a b
        | succ d ih => exact fun hd => (ih (by omega)).up ha hb (by omega)
      have := key (k - lev a b) (by omega)
      rwa [show lev a b + (k - lev a b) = k by omega] at this
/-! ### The automaton's ways -/
/-- From a place to a place, by so many edits. -/
inductive Fw (f : List Int) (X : Nat) : Nat → List Int → Nat → Nat → Prop
  | nil (i : Nat) : Fw f X i [] i 0
  | eq {i j n : Nat} {c : Int} {u : List Int} (h : f[i]? = some c) (r : Fw f X (i + 1) u j n) : Fw f X i (c :: u) j n
  | put {i j n : Nat} {c : Int} {u : List Int} (h : X ≤ i) (r : Fw f X i u j n) : Fw f X i (c :: u) j (n + 1)
  | sub {i j n : Nat} {c : Int} {u : List Int} (h : X ≤ i) (hi : i < f.length) (r : Fw f X (i + 1) u j n) : Fw f X i (c :: u) j (n + 1)
  | skip {i j n : Nat} {u : List Int} (h : X ≤ i) (hi : i < f.length) (r : Fw f X (i + 1) u j n) : Fw f X i u j (n + 1)
theorem Fw.le {f : List Int} {X i j n : Nat} {u : List Int} (h : Fw f X i u j n) (hi : i ≤ f.length) : i ≤ j ∧ j ≤ f.length := by
  induction h with
  | nil => exact ⟨Nat.le_refl _, hi⟩
  | eq h _ ih =>
    have h1 := (List.getElem?_eq_some_iff.1 h).1
    have := ih (by omega)
    omega
  | put _ _ ih => exact ih hi
  | sub _ h _ ih => have := ih (by omega); omega
  | skip _ h _ ih => have := ih (by omega); omega
theorem drop_at {f : List Int} {i : Nat} (hi : i < f.length) : f.drop i = f[i] :: f.drop (i + 1) := List.drop_eq_getElem_cons hi
theorem cut_step {f : List Int} {i j : Nat} (hi : i < f.length) (hj : i + 1 ≤ j) : (f.drop i).take (j - i) = f[i] :: (f.drop (i + 1)).take (j - (i + 1)) := by
  rw [drop_at hi, show j - i = (j - (i + 1)) + 1 by omega, List.take_succ_cons]
/-- Behind the head: the edits. -/
theorem fw_ex {f : List Int} {X i j n : Nat} {u : List Int} (hX : X ≤ i) (hi : i ≤ f.length) : Fw f X i u j n ↔ i ≤ j ∧ j ≤ f.length ∧ Ex u ((f.drop i).take (j - i)) n := by
  constructor
  · intro h
    have hle := h.le hi
    refine ⟨hle.1, hle.2, ?_⟩
    induction h with
    | nil i => rw [Nat.sub_self, List.take_zero]; exact .nil
    | @eq i j n c u h r ih =>
      have h1 := (List.getElem?_eq_some_iff.1 h)
      obtain ⟨h1, h2⟩ := h1
      have h3 := r.le (by omega)
      rw [cut_step h1 h3.1, h2]
      exact .eq (ih (by omega) (by omega) h3)
    | put _ r ih => exact .del (ih hX hi hle)
    | @sub i j n c u _ h1 r ih =>
      have h3 := r.le (by omega)
      rw [cut_step h1 h3.1]
      exact .sub (ih (by omega) (by omega) h3)
    | @skip i j n u _ h1 r ih =>
      have h3 := r.le (by omega)
      rw [cut_step h1 h3.1]
      exact .ins (ih (by omega) (by omega) h3)
  · rintro ⟨h1, h2, h⟩
    obtain ⟨b, hb⟩ : ∃ b, (f.drop i).take (j - i) = b := ⟨_, rfl⟩
    rw [hb] at h
    induction h generalizing i with
    | nil =>
      have h3 := congrArg List.length hb
      rw [List.length_take, List.length_drop, List.length_nil] at h3
      obtain rfl : i = j := by omega
      exact .nil i
    | del _ ih => exact .put hX (ih hX hi h1 hb)
    | @ins y a b n _ ih =>
      have h3 := congrArg List.length hb
      rw [List.length_take, List.length_drop, List.length_cons] at h3
      rw [cut_step (by omega) (by omega)] at hb
      injection hb with _ hb
      exact .skip hX (by omega) (ih (by omega) (by omega) (by omega) hb)
    | @eq x a b n _ ih =>
      have h3 := congrArg List.length hb
      rw [List.length_take, List.length_drop, List.length_cons] at h3
      rw [cut_step (by omega) (by omega)] at hb
      injection hb with h4 hb
      exact .eq (by rw [List.getElem?_eq_getElem (by omega), h4]) (ih (by omega) (by omega) (by omega) hb)
    | @sub x y a b n _ ih =>
      have h3 := congrArg List.length hb
      rw [List.length_take, List.length_drop, List.length_cons] at h3
      rw [cut_step (by omega) (by omega)] at hb
      injection hb with _ hb
      exact .sub hX (by omega) (ih (by omega) (by omega) (by omega) hb)
end Go.Proofs.YtclahhkcbkpofaaDoor
