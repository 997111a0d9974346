/- A text against a word's beginnings: the distances near its own length (plain Lean). -/
import Derived.Test.YtclahhkcbkpofaaDoorHFt47
import Derived.Test.YtclahhkcbkpofaaDoorHFt50
namespace Go.Proofs.YtclahhkcbkpofaaDoor
open Sp
theorem lev_snoc (a b : List Int) (y : Int) : lev a (b ++ [y]) ≤ lev a b + 1 ∧ lev a b ≤ lev a (b ++ [y]) + 1 := by
  have e1 : lev a (b ++ [y]) = lev a.reverse (y :: b.reverse) := by rw [← lev_rev, List.reverse_append]; rfl
  have e2 := lev_rev a b
  have h1 := lev_ins y a.reverse b.reverse
  have h2 := lev_trans a.reverse (y :: b.reverse) b.reverse
  have h3 := lev_del y b.reverse b.reverse
  rw [lev_self] at h3
  omega
/-- How far from the beginning that is shorter by two, by one, .., longer by two; three for all that is farther. -/
def bandV (a b : List Int) (d : Nat) : Nat := if a.length + d < 2 then 2 - d else min 3 (lev a (b.take (a.length + d - 2)))
def prof (a b : List Int) : List Nat := [bandV a b 0, bandV a b 1, bandV a b 2, bandV a b 3, bandV a b 4]
theorem take_snoc {b : List Int} {j : Nat} (hj : j < b.length) : b.take (j + 1) = b.take j ++ [b[j]] := by
  rw [List.take_add_one, List.getElem?_eq_getElem hj]
  rfl
theorem band_far {a b : List Int} {d : Nat} (hd : d ≤ 4) (hb : a.length + 2 ≤ b.length) : 2 ≤ bandV a b d + d ∧ d ≤ bandV a b d + 2 ∧ bandV a b d ≤ 3 := by
  unfold bandV
  split
  · omega
  · have h := lev_len a (b.take (a.length + d - 2))
    rw [List.length_take, Nat.min_eq_left (by omega)] at h
    omega
theorem band_next {a b : List Int} {d : Nat} (hd : d < 4) (hb : a.length + 2 ≤ b.length) : bandV a b (d + 1) ≤ bandV a b d + 1 ∧ bandV a b d ≤ bandV a b (d + 1) + 1 := by
  unfold bandV
  by_cases h1 : a.length + (d + 1) < 2
  · rw [if_pos h1, if_pos (by omega)]
    omega
  · rw [if_neg h1]
    by_cases h2 : a.length + d < 2
    · rw [if_pos h2, show a.length + (d + 1) - 2 = 0 by omega, List.take_zero, lev_nil2]
      omega
    · rw [if_neg h2, show a.length + (d + 1) - 2 = (a.length + d - 2) + 1 by omega, take_snoc (by omega)]
      have := lev_snoc a (b.take (a.length + d - 2)) (b[a.length + d - 2]'(by omega))
      omega
def near1 (x y : Nat) : Bool := decide (x ≤ y + 1) && decide (y ≤ x + 1)
def vecs : List (List Nat) := [2, 3].flatMap fun a => [1, 2, 3].flatMap fun b => [0, 1, 2, 3].flatMap fun c => [1, 2, 3].flatMap fun d => [2, 3].map fun e => [a, b, c, d, e]
def okV : List Nat → Bool
  | [a, b, c, d, e] => near1 a b && near1 b c && near1 c d && near1 d e
  | _ => false
def V51 : List (List Nat) := vecs.filter okV
def smallV (v : List Nat) : Bool := v.any fun x => decide (x ≤ 1)
theorem V51_len : V51.length = 51 := by decide +kernel
theorem V51_small : (V51.filter smallV).length = 19 := by decide +kernel
theorem prof_in {a b : List Int} (hb : a.length + 2 ≤ b.length) : prof a b ∈ V51 := by
  have f0 := band_far (a := a) (b := b) (d := 0) (by omega) hb
  have f1 := band_far (a := a) (b := b) (d := 1) (by omega) hb
  have f2 := band_far (a := a) (b := b) (d := 2) (by omega) hb
  have f3 := band_far (a := a) (b := b) (d := 3) (by omega) hb
  have f4 := band_far (a := a) (b := b) (d := 4) (by omega) hb
  have n0 := band_next (a := a) (b := b) (d := 0) (by omega) hb
  have n1 := band_next (a := a) (b := b) (d := 1) (by omega) hb
  have n2 := band_next (a := a) (b := b) (d := 2) (by omega) hb
  have n3 := band_next (a := a) (b := b) (d := 3) (by omega) hb
  unfold prof
  generalize bandV a b 0 = x0 at *
  generalize bandV a b 1 = x1 at *
  generalize bandV a b 2 = x2 at *
  generalize bandV a b 3 = x3 at *
  generalize bandV a b 4 = x4 at *
  refine List.mem_filter.2 ⟨?_, ?_⟩
  · unfold vecs
    refine List.mem_flatMap.2 ⟨x0, ?_, List.mem_flatMap.2 ⟨x1, ?_, List.mem_flatMap.2 ⟨x2, ?_, List.mem_flatMap.2 ⟨x3, ?_, List.mem_map.2 ⟨x4, ?_, rfl⟩⟩⟩⟩⟩
    · simp; omega
    · simp; omega
    · simp; omega
    · simp; omega
    · simp; omega
  · unfold okV near1
    simp only [Bool.and_eq_true, decide_eq_true_eq]
    omega
/-- The states behind the head, of a length and a profile. -/
def setV (E X n i : Nat) (v : List Nat) (y : Nat) : Prop := ∃ j k d x, y = atS E j k ∧ k ≤ E ∧ X ≤ j ∧ j ≤ n ∧ v[d]? = some x ∧ j - X + 2 = i + d ∧ x ≤ k ∧ (i = 0 ∨ j = X → k = x)
theorem prof_at (a b : List Int) {d : Nat} (hd : d ≤ 4) : (prof a b)[d]? = some (bandV a b d) := by
  unfold prof
  match d, hd with
  | 0, _ => rfl
  | 1, _ => rfl
  | 2, _ => rfl
  | 3, _ => rfl
  | 4, _ => rfl
/-- What is met behind the head is told by the length and the profile. -/
theorem met_prof {f : List Int} {E X : Nat} (hE : E ≤ 2) (hX : X ≤ f.length) (a w : List Int) (y : Nat) : (∃ j k, y = atS E j k ∧ k ≤ E ∧ Fw f X X a j k) ↔ setV E X f.length a.length (prof a (f.drop X ++ w)) y := by
  have hpre : ∀ {j : Nat}, j ≤ f.length → (f.drop X ++ w).take (j - X) = (f.drop X).take (j - X) := fun {j} hj => by
    rw [List.take_append_of_le_length (by rw [List.length_drop]; omega)]
  have hlen : ∀ {j : Nat}, j ≤ f.length → ((f.drop X).take (j - X)).length = j - X := fun {j} hj => by
    rw [List.length_take, List.length_drop]; omega
  constructor
  · rintro ⟨j, k, rfl, hk, h⟩
    obtain ⟨h1, h2, h3⟩ := (fw_ex (Nat.le_refl X) hX).1 h
    obtain ⟨h4, h5⟩ := (ex_iff (by omega)).1 h3
    have h6 := lev_len a ((f.drop X).take (j - X))
    rw [hlen h2] at h6
    have hb : bandV a (f.drop X ++ w) (j - X + 2 - a.length) = min 3 (lev a ((f.drop X).take (j - X))) := by
      unfold bandV
      rw [if_neg (by omega), show a.length + (j - X + 2 - a.length) - 2 = j - X by omega, hpre h2]
    refine ⟨j, k, j - X + 2 - a.length, _, rfl, hk, h1, h2, prof_at _ _ (by omega), by omega, by rw [hb]; omega, fun e => ?_⟩
    rw [hb]
    have h7 := h5 (by
      rcases e with e | e
      · exact .inl (List.length_eq_zero_iff.1 e)
      · right
        rw [e, Nat.sub_self, List.take_zero])
    omega
  · rintro ⟨j, k, d, x, rfl, hk, h1, h2, h3, h4, h5, h6⟩
    have hd : d ≤ 4 := by
      have := (List.getElem?_eq_some_iff.1 h3).1
      have e : (prof a (f.drop X ++ w)).length = 5 := rfl
      omega
    rw [prof_at _ _ hd] at h3
    injection h3 with h3
    have hb : bandV a (f.drop X ++ w) d = min 3 (lev a ((f.drop X).take (j - X))) := by
      unfold bandV
      rw [if_neg (by omega), show a.length + d - 2 = j - X by omega, hpre h2]
    rw [hb] at h3
    refine ⟨j, k, rfl, hk, (fw_ex (Nat.le_refl X) hX).2 ⟨h1, h2, (ex_iff (by omega)).2 ⟨by omega, fun e => ?_⟩⟩⟩
    have h7 := h6 (by
      rcases e with e | e
      · left; rw [e]; rfl
      · right
        have := congrArg List.length e
        rw [hlen h2, List.length_nil] at this
        omega)
    omega
end Go.Proofs.YtclahhkcbkpofaaDoor
/- A word with edits: at most twenty thousand sets are met (plain Lean). -/
namespace Go.Proofs.YtclahhkcbkpofaaDoor
open Sp
section
variable (f : List Int) (E X : Nat)
def fzN : Nat := (f.length + 1) * (E + 1)
def fzL : List Lst := fuzL f.length E X ((f.length + 1) * (E + 1))
def fzE : List Ld := fuzE f E X ((f.length + 1) * (E + 1))
/-- The mids of just these bytes. -/
def Mex (P : Nat → Prop) (u : List Nat) (y : Nat) : Prop := ∃ (k : Nat) (e : Ld), (fzE f E X)[k]? = some e ∧ P e.1 ∧ midsP (offM (fzN f E) (fzE f E X) k) (allP e.2.2.1 e.2.2.2) u y
/-- The mids of whole ranges. -/
def Mfu (P : Nat → Prop) (v : List Nat) (y : Nat) : Prop := ∃ (k : Nat) (e : Ld), (fzE f E X)[k]? = some e ∧ P e.1 ∧ (e.2.2.1 = 0 ∧ e.2.2.2 = 1114111) ∧ midsP (offM (fzN f E) (fzE f E X) k) (allP 0 1114111) v y
def partsL (c : Int) : List (List Nat) := [(encN c).take 1, (encN c).take 2]
def partsAt (j : Nat) : List (List Nat) := match f[j]? with
  | some c => partsL c
  | none => []
open Classical in
noncomputable def candP (P : Nat → Prop) (js : List Nat) (full : Bool) : List (List Int) :=
  setL (fuzA f E X).length P :: ((js.flatMap (partsAt f)).map fun u => setL (fuzA f E X).length (Mex f E X P u)) ++ (if full then reps18.map fun v => setL (fuzA f E X).length (Mfu f E X P v) else [])
def jsOf (i : Nat) : List Nat := [X + i - 2, X + i - 1, X + i, X + i + 1, X + i + 2]
open Classical in
noncomputable def candA : List (List Int) :=
  setL (fuzA f E X).length (fun _ => False) :: ((List.range X).flatMap fun i => candP f E X (fun y => y = atS E i 0) [i] false) ++ (List.range (f.length - X + 3)).flatMap fun i => V51.flatMap fun v => candP f E X (setV E X f.length i v) (jsOf X i) (smallV v)
theorem parts_len (js : List Nat) : (js.flatMap (partsAt f)).length ≤ js.length * 2 := by
  induction js with
  | nil => simp
  | cons j js ih =>
    rw [List.flatMap_cons, List.length_append, List.length_cons]
    have h : (partsAt f j).length ≤ 2 := by
      unfold partsAt
      split
      · exact Nat.le_refl _
      · exact Nat.zero_le _
    omega
theorem candP_len (P : Nat → Prop) (js : List Nat) (full : Bool) : (candP f E X P js full).length ≤ 1 + js.length * 2 + (if full then 18 else 0) := by
  unfold candP
  have := parts_len f js
  rw [List.length_append, List.length_cons, List.length_map]
  cases full
  · simp only [Bool.false_eq_true, if_false, List.length_nil]; omega
  · simp only [if_true, List.length_map, reps_len]; omega
theorem flat_most {α β : Type} (g : α → List β) (m : Nat) : ∀ (l : List α), (∀ x ∈ l, (g x).length ≤ m) → (l.flatMap g).length ≤ l.length * m
  | [], _ => by simp
  | x :: l, h => by
    have h1 := flat_most g m l fun y hy => h y (List.mem_cons_of_mem _ hy)
    have h2 := h x (List.mem_cons_self ..)
    rw [List.flatMap_cons, List.length_append, List.length_cons, Nat.add_mul]
    omega
theorem flat_small {β : Type} (g : List Nat → List β) : ∀ (l : List (List Nat)), (∀ x ∈ l, (g x).length ≤ 11 + if smallV x then 18 else 0) → (l.flatMap g).length ≤ l.length * 11 + (l.filter smallV).length * 18
  | [], _ => by simp
  | x :: l, h => by
    have h1 := flat_small g l fun y hy => h y (List.mem_cons_of_mem _ hy)
    have h2 := h x (List.mem_cons_self ..)
    rw [List.flatMap_cons, List.length_append, List.length_cons, List.filter_cons]
    cases hs : smallV x
    · rw [hs] at h2
      simp only [Bool.false_eq_true, if_false] at h2 ⊢
      omega
    · rw [hs] at h2
      simp only [if_true, List.length_cons] at h2 ⊢
      omega
theorem candA_len (hn : f.length ≤ 16) (hX : X ≤ f.length) : (candA f E X).length ≤ 20000 := by
  unfold candA
  rw [List.length_append, List.length_cons]
  have h1 := flat_most (fun i => candP f E X (fun y => y = atS E i 0) [i] false) 3 (List.range X) fun i _ => by
    have := candP_len f E X (fun y => y = atS E i 0) [i] false
    simpa using this
  have h2 := flat_most (fun i => V51.flatMap fun v => candP f E X (setV E X f.length i v) (jsOf X i) (smallV v)) 903 (List.range (f.length - X + 3)) fun i _ => by
    have := flat_small (fun v => candP f E X (setV E X f.length i v) (jsOf X i) (smallV v)) V51 fun v _ => by
      have := candP_len f E X (setV E X f.length i v) (jsOf X i) (smallV v)
      have e : (jsOf X i).length = 5 := rfl
      rw [e] at this
      exact this
    rw [V51_len, V51_small] at this
    exact this
  rw [List.length_range] at h1 h2
  omega
end
/-- What is met behind whole characters. -/
def Met (f : List Int) (E X : Nat) (u : List Int) (y : Nat) : Prop := ∃ j k, y = atS E j k ∧ k ≤ E ∧ Fw f X 0 u j k
theorem met_code {f : List Int} {E X : Nat} (hE : E ≤ 2) (hX : X ≤ f.length) {u : List Int} {y0 : Nat} (h0 : Met f E X u y0) : ∃ P js full, (∀ x ∈ candP f E X P js full, x ∈ candA f E X) ∧ (∀ y, Met f E X u y ↔ P y) ∧ (∀ j k, P (atS E j k) → k ≤ E → j ∈ js) ∧ (∀ j k, k < E → X ≤ j → P (atS E j k) → full = true) := by
  obtain ⟨j0, k0, _, hk0, h⟩ := h0
  rcases (fw_head hX (Nat.zero_le _)).1 h with ⟨_, h1, rfl, hu⟩ | ⟨h1, a, hu, h2⟩
  · have hul : u.length = j0 := by rw [hu, List.length_take, List.length_drop]; omega
    refine ⟨fun y => y = atS E j0 0, [j0], false, fun x hx => ?_, fun y => ⟨?_, ?_⟩, fun j k h3 h4 => ?_, fun j k h3 h4 h5 => ?_⟩
    · unfold candA
      exact List.mem_append_left _ (List.mem_cons_of_mem _ (List.mem_flatMap.2 ⟨j0, List.mem_range.2 h1, hx⟩))
    · rintro ⟨j, k, rfl, hk, h3⟩
      rcases (fw_head hX (Nat.zero_le _)).1 h3 with ⟨_, h4, rfl, h5⟩ | ⟨_, b, h5, _⟩
      · have := congrArg List.length h5
        rw [List.length_take, List.length_drop] at this
        rw [show j = j0 by omega]
      · have := congrArg List.length h5
        rw [List.length_append, List.length_take, List.length_drop] at this
        omega
    · rintro rfl
      exact ⟨j0, 0, rfl, Nat.zero_le _, h⟩
    · rw [(atS_inj h4 (Nat.zero_le _) h3).1]
      exact List.mem_singleton.2 rfl
    · have := (atS_inj (by omega) (Nat.zero_le _) h5).1
      omega
  · rw [Nat.sub_zero, List.drop_zero] at hu
    have hla : a.length ≤ f.length - X + 2 := by
      obtain ⟨h3, h4, h5⟩ := (fw_ex (Nat.le_refl X) hX).1 h2
      have h6 := lev_len a ((f.drop X).take (j0 - X))
      have h7 := h5.least
      rw [List.length_take, List.length_drop] at h6
      omega
    obtain ⟨v, hv⟩ : ∃ v, prof a (f.drop X ++ [-1, -1, -1, -1]) = v := ⟨_, rfl⟩
    have hm := fun y => met_prof hE hX a [-1, -1, -1, -1] y
    rw [hv] at hm
    have hvl : v.length = 5 := by rw [← hv]; rfl
    refine ⟨setV E X f.length a.length v, jsOf X a.length, smallV v, fun x hx => ?_, fun y => ⟨?_, ?_⟩, fun j k h3 h4 => ?_, fun j k h3 h4 h5 => ?_⟩
    · unfold candA
      refine List.mem_append_right _ (List.mem_flatMap.2 ⟨a.length, List.mem_range.2 (by omega), List.mem_flatMap.2 ⟨v, ?_, hx⟩⟩)
      rw [← hv]
      exact prof_in (by rw [List.length_append, List.length_drop]; simp; omega)
    · rintro ⟨j, k, rfl, hk, h3⟩
      rw [← hm]
      rcases (fw_head hX (Nat.zero_le _)).1 h3 with ⟨_, h4, _, h5⟩ | ⟨_, b, h5, h6⟩
      · have h7 := congrArg List.length hu
        have h8 := congrArg List.length h5
        rw [List.length_append, List.length_take] at h7
        rw [List.length_take, List.length_drop] at h8
        omega
      · rw [Nat.sub_zero, List.drop_zero, hu] at h5
        have h7 := List.append_cancel_left h5
        rw [← h7] at h6
        exact ⟨j, k, rfl, hk, h6⟩
    · intro h3
      obtain ⟨j, k, rfl, hk, h4⟩ := (hm y).2 h3
      exact ⟨j, k, rfl, hk, (fw_head hX (Nat.zero_le _)).2 (.inr ⟨((fw_ex (Nat.le_refl X) hX).1 h4).1, a, by rw [Nat.sub_zero, List.drop_zero]; exact hu, h4⟩)⟩
    · obtain ⟨j1, k1, d, x, e, hk1, h5, h6, h7, h8, _⟩ := h3
      obtain ⟨rfl, rfl⟩ := atS_inj h4 hk1 e
      have hd := (List.getElem?_eq_some_iff.1 h7).1
      rw [hvl] at hd
      unfold jsOf
      simp only [List.mem_cons, List.not_mem_nil, or_false]
      omega
    · obtain ⟨j1, k1, d, x, e, hk1, h6, h7, h8, h9, h10, _⟩ := h5
      obtain ⟨rfl, rfl⟩ := atS_inj (by omega) hk1 e
      unfold smallV
      rw [List.any_eq_true]
      exact ⟨x, List.mem_of_getElem? h8, decide_eq_true (by omega)⟩
end Go.Proofs.YtclahhkcbkpofaaDoor
/- A word with edits: at most twenty thousand sets are met, the end (plain Lean). -/
namespace Go.Proofs.YtclahhkcbkpofaaDoor
open Sp
/-- Letters: characters of at most three bytes. -/
def LetW (f : List Int) : Prop := ∀ c ∈ f, wholeB c = true ∧ c ≤ 65535
theorem fz_full {f : List Int} {E X : Nat} (hf : LetW f) : ∀ e ∈ fzE f E X, FullOr e := fun e he => by
  obtain ⟨i, k, hi, hk, h⟩ := fuzE_mem.1 he
  rcases h with ⟨c, h1, rfl⟩ | ⟨_, _, rfl⟩ | ⟨_, _, _, rfl⟩
  · exact .inr ⟨(hf c (List.mem_of_getElem? h1)).1, rfl⟩
  · exact .inl ⟨rfl, rfl⟩
  · exact .inl ⟨rfl, rfl⟩
open Classical in
theorem fuz_sets {f : List Int} {E X : Nat} (hE : E ≤ 2) (hn : f.length ≤ 16) (hX : X ≤ f.length) (hf : LetW f) (g : Nat) : ((subW (fuzA f E X)).run g 0 [setL (fuzA f E X).length (Clo (fuzA f E X) fun x => x = 0)]).length ≤ 20000 := by
  refine Nat.le_trans (met_few (candA f E X) (fun t => ?_) g) (candA_len f E X hn hX)
  have hN : (fzL f E X).length = fzN f E := fuzL_len _ _ _ _
  have hNp : 0 < fzN f E := Nat.mul_pos (by omega) (by omega)
  have hok : OkE (fzL f E X).length (fzE f E X) := fuzE_ok f E X
  have hemp : ∀ x t y, edgeL (fzL f E X) x t y → t = [] := fun x t y h => ((fuz_edge _ _ _ _ _ _).1 h).1
  have hin : InE (edgeL (fzL f E X)) (fzL f E X).length := fun x t y h => by
    obtain ⟨_, i, k, rfl, h1, h2, h3, rfl⟩ := (fuz_edge _ _ _ _ _ _).1 h
    rw [hN]
    exact ⟨atS_lt (by omega) (by omega), atS_lt (by omega) (by omega)⟩
  have hb : ∀ y, y < fzN f E → (Way (edgeL (fuzA f E X)) 0 t y ↔ Way (orE (edgeL (fzL f E X)) (esE (fzE f E X))) 0 t y) := fun y hy => by
    rw [← noE_way]
    show Way (orE (edgeL (leadsL (fzL f E X) (fzE f E X))) noE) 0 t y ↔ _
    rw [leads_way _ _ noE hok hin (noE_in _) (by rw [hN]; exact hNp) (by rw [hN]; exact hy), orE_no]
  have hm : ∀ y, fzN f E ≤ y → (Way (edgeL (fuzA f E X)) 0 t y ↔ ∃ (k : Nat) (e : Ld) (t' u : List Nat), (fzE f E X)[k]? = some e ∧ t = t' ++ u ∧ Way (orE (edgeL (fzL f E X)) (esE (fzE f E X))) 0 t' e.1 ∧ midsP (offM (fzN f E) (fzE f E X) k) (allP e.2.2.1 e.2.2.2) u y) := fun y hy => by
    rw [← noE_way]
    show Way (orE (edgeL (leadsL (fzL f E X) (fzE f E X))) noE) 0 t y ↔ _
    rw [leads_mid _ _ noE hok hin (noE_in _) (by rw [hN]; exact hNp) (by rw [hN]; exact hy), hN]
    constructor
    · rintro ⟨k, e, t', u, h1, h2, h3, h4⟩
      exact ⟨k, e, t', u, h1, h2, orE_no.1 h3, h4⟩
    · rintro ⟨k, e, t', u, h1, h2, h3, h4⟩
      exact ⟨k, e, t', u, h1, h2, orE_no.2 h3, h4⟩
  have hmet : ∀ {w : List Int}, (∀ c ∈ w, wholeB c = true) → ∀ y, Way (orE (edgeL (fzL f E X)) (esE (fzE f E X))) 0 (encs w) y ↔ Met f E X w y := fun {w} hw y => by
    have h1 : Way (orE (edgeL (fzL f E X)) (esE (fzE f E X))) 0 (encs w) y ↔ CW (frF f.length E X) (fzE f E X) 0 w y := cw_iff (fuz_edge _ _ _) hw
    have h2 := cw_fw (f := f) (E := E) (X := X) (u := w) (fun c hc => by
      have h : 0 ≤ c ∧ c ≤ 1114111 ∧ (c < 55296 ∨ 57343 < c) := of_decide_eq_true (hw c hc)
      exact ⟨h.1, h.2.1⟩) (i := 0) (k := 0) (z := y) (Nat.zero_le _) (Nat.zero_le _)
    rw [show atS E 0 0 = 0 by unfold atS; omega] at h2
    rw [h1]
    refine h2.trans ⟨?_, ?_⟩
    · rintro ⟨j, m, rfl, h3, h4⟩
      exact ⟨j, m, by rw [Nat.zero_add], by omega, h4⟩
    · rintro ⟨j, m, rfl, h3, h4⟩
      exact ⟨j, m, by rw [Nat.zero_add], by omega, h4⟩
  by_cases hmid : ∃ (k : Nat) (e : Ld) (t' u : List Nat) (y : Nat), (fzE f E X)[k]? = some e ∧ t = t' ++ u ∧ Way (orE (edgeL (fzL f E X)) (esE (fzE f E X))) 0 t' e.1 ∧ midsP (offM (fzN f E) (fzE f E X) k) (allP e.2.2.1 e.2.2.2) u y
  · obtain ⟨k0, e0, t', u, y0, h1, rfl, h2, h3⟩ := hmid
    have hsu : SSh u := mid_ssh (fun _ h => h) h3
    have hpu : Prt u := mid_prt (fun _ h => h) h3
    obtain ⟨w, hw, rfl⟩ := way_enc hemp (fz_full hf) h2
    obtain ⟨P, js, full, hin2, hP, hjs, hfu⟩ := met_code hE hX ((hmet hw _).1 h2)
    have hwP : ∀ y, Way (orE (edgeL (fzL f E X)) (esE (fzE f E X))) 0 (encs w) y ↔ P y := fun y => (hmet hw y).trans (hP y)
    have hset : setL (fuzA f E X).length (fun y => Way (edgeL (fuzA f E X)) 0 (encs w ++ u) y) = setL (fuzA f E X).length (Mex f E X P u) := setL_congr fun y _ => by
      by_cases hyn : y < fzN f E
      · rw [hb y hyn]
        constructor
        · intro hwy
          exfalso
          obtain ⟨t'', v, e, h4, h5, h6, _⟩ := way_last hemp hwy (fun e => prt_ne hpu (List.append_eq_nil_iff.1 e).2)
          obtain ⟨r, hr, hfr⟩ := h6
          obtain ⟨_, rfl⟩ := ssh_one hsu (fit_ssh hr hfr) h4
          exact seg_prt (a := []) (fit_seg hr hfr) hpu (List.append_nil _)
        · rintro ⟨k, e, _, _, hp⟩
          have h5 := (midsP_in hp).1
          have h6 : fzN f E ≤ offM (fzN f E) (fzE f E X) k := offM_ge
          omega
      · rw [hm y (by omega)]
        constructor
        · rintro ⟨k, e, t'', v, hk, h4, h5, h6⟩
          obtain ⟨h7, rfl⟩ := ssh_one hsu (mid_ssh (fun _ h => h) h6) h4
          rw [← h7] at h5
          exact ⟨k, e, hk, (hwP _).1 h5, h6⟩
        · rintro ⟨k, e, hk, hp, h6⟩
          exact ⟨k, e, encs w, u, hk, rfl, (hwP _).2 hp, h6⟩
    rw [hset]
    by_cases hlet : ∃ (k : Nat) (e : Ld) (y : Nat), (fzE f E X)[k]? = some e ∧ P e.1 ∧ ¬ (e.2.2.1 = 0 ∧ e.2.2.2 = 1114111) ∧ midsP (offM (fzN f E) (fzE f E X) k) (allP e.2.2.1 e.2.2.2) u y
    · obtain ⟨k, e, y, hk, hp, hne, h6⟩ := hlet
      obtain ⟨i, m, hi, hmE, h⟩ := fuzE_mem.1 (List.mem_of_getElem? hk)
      rcases h with ⟨c, h7, rfl⟩ | ⟨_, _, rfl⟩ | ⟨_, _, _, rfl⟩
      · obtain ⟨hc1, hc2⟩ := hf c (List.mem_of_getElem? h7)
        obtain ⟨k1, k2, k3⟩ := mid_letter hc1 h6
        have k4 := enc3 hc2
        refine hin2 _ ?_
        unfold candP
        refine List.mem_append_left _ (List.mem_cons_of_mem _ (List.mem_map.2 ⟨u, List.mem_flatMap.2 ⟨i, hjs i m hp hmE, ?_⟩, rfl⟩))
        unfold partsAt
        rw [h7]
        unfold partsL
        have h8 : u.length = 1 ∨ u.length = 2 := by omega
        rcases h8 with h8 | h8
        · rw [h8] at k3
          exact List.mem_cons.2 (.inl k3)
        · rw [h8] at k3
          exact List.mem_cons_of_mem _ (List.mem_singleton.2 k3)
      · exact absurd ⟨rfl, rfl⟩ hne
      · exact absurd ⟨rfl, rfl⟩ hne
    · have hfull : ∀ {k : Nat} {e : Ld} {y : Nat}, (fzE f E X)[k]? = some e → P e.1 → midsP (offM (fzN f E) (fzE f E X) k) (allP e.2.2.1 e.2.2.2) u y → e.2.2.1 = 0 ∧ e.2.2.2 = 1114111 := fun {k e y} a b c => Classical.byContradiction fun d => hlet ⟨k, e, y, a, b, d, c⟩
      have hp0 := (hwP _).1 h2
      obtain ⟨g1, g2⟩ := hfull h1 hp0 h3
      have hF : full = true := by
        obtain ⟨i, m, hi, hmE, h⟩ := fuzE_mem.1 (List.mem_of_getElem? h1)
        rcases h with ⟨c, h7, rfl⟩ | ⟨k1, k2, rfl⟩ | ⟨k1, k2, _, rfl⟩
        · have h8 := (hf c (List.mem_of_getElem? h7)).2
          have g1 : c = 0 := g1
          have g2 : c = 1114111 := g2
          omega
        · exact hfu i m k1 k2 hp0
        · exact hfu i m k1 k2 hp0
      rw [g1, g2] at h3
      obtain ⟨v, hv, hsame⟩ := full_one18 h3
      refine hin2 _ ?_
      unfold candP
      rw [hF, if_pos rfl]
      refine List.mem_append_right _ (List.mem_map.2 ⟨v, hv, setL_congr fun y _ => ⟨?_, ?_⟩⟩)
      · rintro ⟨k, e, hk, hp, hes, h6⟩
        refine ⟨k, e, hk, hp, ?_⟩
        rw [hes.1, hes.2]
        exact (hsame _ _).2 h6
      · rintro ⟨k, e, hk, hp, h6⟩
        have hes := hfull hk hp h6
        rw [hes.1, hes.2] at h6
        exact ⟨k, e, hk, hp, hes, (hsame _ _).1 h6⟩
  · have hup : ∀ y, fzN f E ≤ y → ¬ Way (edgeL (fuzA f E X)) 0 t y := fun y hy h => by
      obtain ⟨k, e, t', u, h1, h2, h3, h4⟩ := (hm y hy).1 h
      exact hmid ⟨k, e, t', u, y, h1, h2, h3, h4⟩
    by_cases hsome : ∃ y, Way (orE (edgeL (fzL f E X)) (esE (fzE f E X))) 0 t y
    · obtain ⟨y0, h0⟩ := hsome
      obtain ⟨w, hw, rfl⟩ := way_enc hemp (fz_full hf) h0
      obtain ⟨P, js, full, hin2, hP, hjs, hfu⟩ := met_code hE hX ((hmet hw _).1 h0)
      have hwP : ∀ y, Way (orE (edgeL (fzL f E X)) (esE (fzE f E X))) 0 (encs w) y ↔ P y := fun y => (hmet hw y).trans (hP y)
      refine hin2 _ ?_
      unfold candP
      refine List.mem_append_left _ (List.mem_cons.2 (.inl (setL_congr fun y _ => ?_)))
      by_cases hyn : y < fzN f E
      · rw [hb y hyn, hwP]
      · refine ⟨fun h => absurd h (hup y (by omega)), fun h => ?_⟩
        exfalso
        obtain ⟨j, k, rfl, hk, hfw⟩ := (hP y).2 h
        have := (hfw.le (Nat.zero_le _)).2
        exact hyn (atS_lt this hk)
    · unfold candA
      refine List.mem_append_left _ (List.mem_cons.2 (.inl (setL_congr fun y _ => ?_)))
      refine ⟨fun h => ?_, fun h => h.elim⟩
      by_cases hyn : y < fzN f E
      · exact hsome ⟨y, (hb y hyn).1 h⟩
      · exact hup y (by omega) h
end Go.Proofs.YtclahhkcbkpofaaDoor
