/- A word with edits: at most twenty thousand sets are met (plain Lean). -/
import Derived.Test.YtclahhkcbkpofaaDoorHFz48
import Derived.Test.YtclahhkcbkpofaaDoorChecked
import Derived.Test.YtclahhkcbkpofaaDoorHFz1
import Derived.Test.YtclahhkcbkpofaaDoorHFz47
import Derived.Test.YtclahhkcbkpofaaDoorRows
import Derived.Test.YtclahhkcbkpofaaDoorHFz46
namespace Go.Proofs.YtclahhkcbkpofaaDoor
open Sp
section
variable (f : List Int) (E X : Nat)
def fzN : Nat := (f.length + 1) * (E + 1)
def fzL : List Lst := fuzL f.length E X ((f.length + 1) * (E + 1))
def fzE : List Ld := fuzE f E X ((f.length + 1) * (E + 1))
/-- The mids of just these bytes. -/
def Mex (P : Nat → Prop) (u : List Nat) (y : Nat) : Prop := ∃ (k : Nat) (e : Ld), (fzE f E X)[k]? = some e ∧ P e.1 ∧ midsP (offM (fzN f E) (fzE f E X) k) (allP e.2.2.1 e.2.2.2) u y
/-- The mids of whole ranges. -/
def Mfu (P : Nat → Prop) (v : List Nat) (y : Nat) : Prop := ∃ (k : Nat) (e : Ld), (fzE f E X)[k]? = some e ∧ P e.1 ∧ (e.2.2.1 = 0 ∧ e.2.2.2 = 1114111) ∧ midsP (offM (fzN f E) (fzE f E X) k) (allP 0 1114111) v y
def partsL (c : Int) : List (List Nat) := [(encN c).take 1, (encN c).take 2]
def partsAt (j : Nat) : List (List Nat) := match f[j]? with
  | some c => partsL c
  | none => []
open Classical in
noncomputable def candP (P : Nat → Prop) (js : List Nat) (full : Bool) : List (List Int) :=
  setL (fuzA f E X).length P :: ((js.flatMap (partsAt f)).map fun u => setL (fuzA f E X).length (Mex f E X P u)) ++ (if full then reps18.map fun v => setL (fuzA f E X).length (Mfu f E X P v) else [])
def jsOf (i : Nat) : List Nat := [X + i - 2, X + i - 1, X + i, X + i + 1, X + i + 2]
open Classical in
noncomputable def candA : List (List Int) :=
  setL (fuzA f E X).length (fun _ => False) :: ((List.range X).flatMap fun i => candP f E X (fun y => y = atS E i 0) [i] false) ++ (List.range (f.length - X + 3)).flatMap fun i => V51.flatMap fun v => candP f E X (setV E X f.length i v) (jsOf X i) (smallV v)
theorem parts_len (js : List Nat) : (js.flatMap (partsAt f)).length ≤ js.length * 2 := by
  induction js with
  | nil => simp
  | cons j js ih =>
    rw [List.flatMap_cons, List.length_append, List.length_cons]
    have h : (partsAt f j).length ≤ 2 := by
      unfold partsAt
      split
      · exact Nat.le_refl _
      · exact Nat.zero_le _
    omega
theorem candP_len (P : Nat → Prop) (js : List Nat) (full : Bool) : (candP f E X P js full).length ≤ 1 + js.length * 2 + (if full then 18 else 0) := by
  unfold candP
  have := parts_len f js
  rw [List.length_append, List.length_cons, List.length_map]
  cases full
  · simp only [Bool.false_eq_true, if_false, List.length_nil]; omega
  · simp only [if_true, List.length_map, reps_len]; omega
theorem flat_most {α β : Type} (g : α → List β) (m : Nat) : ∀ (l : List α), (∀ x ∈ l, (g x).length ≤ m) → (l.flatMap g).length ≤ l.length * m
  | [], _ => by simp
  | x :: l, h => by
    have h1 := flat_most g m l fun y hy => h y (List.mem_cons_of_mem _ hy)
    have h2 := h x (List.mem_cons_self ..)
    rw [List.flatMap_cons, List.length_append, List.length_cons, Nat.add_mul]
    omega
theorem flat_small {β : Type} (g : List Nat → List β) : ∀ (l : List (List Nat)), (∀ x ∈ l, (g x).length ≤ 11 + if smallV x then 18 else 0) → (l.flatMap g).length ≤ l.length * 11 + (l.filter smallV).length * 18
  | [], _ => by simp
  | x :: l, h => by
    have h1 := flat_small g l fun y hy => h y (List.mem_cons_of_mem _ hy)
    have h2 := h x (List.mem_cons_self ..)
    rw [List.flatMap_cons, List.length_append, List.length_cons, List.filter_cons]
    cases hs : smallV x
    · rw [hs] at h2
      simp only [Bool.false_eq_true, if_false] at h2 ⊢
      omega
    · rw [hs] at h2
      simp only [if_true, List.length_cons] at h2 ⊢
      omega
theorem candA_len (hn : f.length ≤ 16) (hX : X ≤ f.length) : (candA f E X).length ≤ 20000 := by
  unfold candA
  rw [List.length_append, List.length_cons]
  have h1 := flat_most (fun i => candP f E X (fun y => y = atS E i 0) [i] false) 3 (List.range X) fun i _ => by
    have := candP_len f E X (fun y => y = atS E i 0) [i] false
    simpa using this
  have h2 := flat_most (fun i => V51.flatMap fun v => candP f E X (setV E X f.length i v) (jsOf X i) (smallV v)) 903 (List.range (f.length - X + 3)) fun i _ => by
    have := flat_small (fun v => candP f E X (setV E X f.length i v) (jsOf X i) (smallV v)) V51 fun v _ => by
      have := candP_len f E X (setV E X f.length i v) (jsOf X i) (smallV v)
      have e : (jsOf X i).length = 5 := rfl
      rw [e] at this
      exact this
    rw [V51_len, V51_small] at this
    exact this
  rw [List.length_range] at h1 h2
  omega
end
/-- What is met behind whole characters. -/
def Met (f : List Int) (E X : Nat) (u : List Int) (y : Nat) : Prop := ∃ j k, y = atS E j k ∧ k ≤ E ∧ Fw f X 0 u j k
theorem met_code {f : List Int} {E X : Nat} (hE : E ≤ 2) (hX : X ≤ f.length) {u : List Int} {y0 : Nat} (h0 : Met f E X u y0) : ∃ P js full, (∀ x ∈ candP f E X P js full, x ∈ candA f E X) ∧ (∀ y, Met f E X u y ↔ P y) ∧ (∀ j k, P (atS E j k) → k ≤ E → j ∈ js) ∧ (∀ j k, k < E → X ≤ j → P (atS E j k) → full = true) := by
  obtain ⟨j0, k0, _, hk0, h⟩ := h0
  rcases (fw_head hX (Nat.zero_le _)).1 h with ⟨_, h1, rfl, hu⟩ | ⟨h1, a, hu, h2⟩
  · have hul : u.length = j0 := by rw [hu, List.length_take, List.length_drop]; omega
    refine ⟨fun y => y = atS E j0 0, [j0], false, fun x hx => ?_, fun y => ⟨?_, ?_⟩, fun j k h3 h4 => ?_, fun j k h3 h4 h5 => ?_⟩
    · unfold candA
      exact List.mem_append_left _ (List.mem_cons_of_mem _ (List.mem_flatMap.2 ⟨j0, List.mem_range.2 h1, hx⟩))
    · rintro ⟨j, k, rfl, hk, h3⟩
      rcases (fw_head hX (Nat.zero_le _)).1 h3 with ⟨_, h4, rfl, h5⟩ | ⟨_, b, h5, _⟩
      · have := congrArg List.length h5
        rw [List.length_take, List.length_drop] at this
        rw [show j = j0 by omega]
      · have := congrArg List.length h5
        rw [List.length_append, List.length_take, List.length_drop] at this
        omega
    · rintro rfl
      exact ⟨j0, 0, rfl, Nat.zero_le _, h⟩
    · rw [(atS_inj h4 (Nat.zero_le _) h3).1]
      exact List.mem_singleton.2 rfl
    · have := (atS_inj (by omega) (Nat.zero_le _) h5).1
      omega
  · rw [Nat.sub_zero, List.drop_zero] at hu
    have hla : a.length ≤ f.length - X + 2 := by
      obtain ⟨h3, h4, h5⟩ := (fw_ex (Nat.le_refl X) hX).1 h2
      have h6 := lev_len a ((f.drop X).take (j0 - X))
      have h7 := h5.least
      rw [List.length_take, List.length_drop] at h6
      omega
    obtain ⟨v, hv⟩ : ∃ v, prof a (f.drop X ++ [-1, -1, -1, -1]) = v := ⟨_, rfl⟩
    have hm := fun y => met_prof hE hX a [-1, -1, -1, -1] y
    rw [hv] at hm
    have hvl : v.length = 5 := by rw [← hv]; rfl
    refine ⟨setV E X f.length a.length v, jsOf X a.length, smallV v, fun x hx => ?_, fun y => ⟨?_, ?_⟩, fun j k h3 h4 => ?_, fun j k h3 h4 h5 => ?_⟩
    · unfold candA
      refine List.mem_append_right _ (List.mem_flatMap.2 ⟨a.length, List.mem_range.2 (by omega), List.mem_flatMap.2 ⟨v, ?_, hx⟩⟩)
      rw [← hv]
      exact prof_in (by rw [List.length_append, List.length_drop]; simp; omega)
    · rintro ⟨j, k, rfl, hk, h3⟩
      rw [← hm]
      rcases (fw_head hX (Nat.zero_le _)).1 h3 with ⟨_, h4, _, h5⟩ | ⟨_, b, h5, h6⟩
      · have h7 := congrArg List.length hu
        have h8 := congrArg List.length h5
        rw [List.length_append, List.length_take] at h7
        rw [List.length_take, List.length_drop] at h8
        omega
      · rw [Nat.sub_zero, List.drop_zero, hu] at h5
        have h7 := List.append_cancel_left h5
        rw [← h7] at h6
        exact ⟨j, k, rfl, hk, h6⟩
    · intro h3
      obtain ⟨j, k, rfl, hk, h4⟩ := (hm y).2 h3
      exact ⟨j, k, rfl, hk, (fw_head hX (Nat.zero_le _)).2 (.inr ⟨((fw_ex (Nat.le_refl X) hX).1 h4).1, a, by rw [Nat.sub_zero, List.drop_zero]; exact hu, h4⟩)⟩
    · obtain ⟨j1, k1, d, x, e, hk1, h5, h6, h7, h8, _⟩ := h3
      obtain ⟨rfl, rfl⟩ := atS_inj h4 hk1 e
      have hd := (List.getElem?_eq_some_iff.1 h7).1
      rw [hvl] at hd
      unfold jsOf
      simp only [List.mem_cons, List.not_mem_nil, or_false]
      omega
    · obtain ⟨j1, k1, d, x, e, hk1, h6, h7, h8, h9, h10, _⟩ := h5
      obtain ⟨rfl, rfl⟩ := atS_inj (by omega) hk1 e
      unfold smallV
      rw [List.any_eq_true]
      exact ⟨x, List.mem_of_getElem? h8, decide_eq_true (by omega)⟩
end Go.Proofs.YtclahhkcbkpofaaDoor
/- A word with edits: at most twenty thousand sets are met, the end (plain Lean). -/
namespace Go.Proofs.YtclahhkcbkpofaaDoor
open Sp
/-- Letters: characters of at most three bytes. -/
def LetW (f : List Int) : Prop := ∀ c ∈ f, wholeB c = true ∧ c ≤ 65535
theorem fz_full {f : List Int} {E X : Nat} (hf : LetW f) : ∀ e ∈ fzE f E X, FullOr e := fun e he => by
  obtain ⟨i, k, hi, hk, h⟩ := fuzE_mem.1 he
  rcases h with ⟨c, h1, rfl⟩ | ⟨_, _, rfl⟩ | ⟨_, _, _, rfl⟩
  · exact .inr ⟨(hf c (List.mem_of_getElem? h1)).1, rfl⟩
  · exact .inl ⟨rfl, rfl⟩
  · exact .inl ⟨rfl, rfl⟩
open Classical in
theorem fuz_sets {f : List Int} {E X : Nat} (hE : E ≤ 2) (hn : f.length ≤ 16) (hX : X ≤ f.length) (hf : LetW f) (g : Nat) : ((subW (fuzA f E X)).run g 0 [setL (fuzA f E X).length (Clo (fuzA f E X) fun x => x = 0)]).length ≤ 20000 := by
  refine Nat.le_trans (met_few (candA f E X) (fun t => ?_) g) (candA_len f E X hn hX)
  have hN : (fzL f E X).length = fzN f E := fuzL_len _ _ _ _
  have hNp : 0 < fzN f E := Nat.mul_pos (by omega) (by omega)
  have hok : OkE (fzL f E X).length (fzE f E X) := fuzE_ok f E X
  have hemp : ∀ x t y, edgeL (fzL f E X) x t y → t = [] := fun x t y h => ((fuz_edge _ _ _ _ _ _).1 h).1
  have hin : InE (edgeL (fzL f E X)) (fzL f E X).length := fun x t y h => by
    obtain ⟨_, i, k, rfl, h1, h2, h3, rfl⟩ := (fuz_edge _ _ _ _ _ _).1 h
    rw [hN]
    exact ⟨atS_lt (by omega) (by omega), atS_lt (by omega) (by omega)⟩
  have hb : ∀ y, y < fzN f E → (Way (edgeL (fuzA f E X)) 0 t y ↔ Way (orE (edgeL (fzL f E X)) (esE (fzE f E X))) 0 t y) := fun y hy => by
    rw [← noE_way]
    show Way (orE (edgeL (leadsL (fzL f E X) (fzE f E X))) noE) 0 t y ↔ _
    rw [leads_way _ _ noE hok hin (noE_in _) (by rw [hN]; exact hNp) (by rw [hN]; exact hy), orE_no]
  have hm : ∀ y, fzN f E ≤ y → (Way (edgeL (fuzA f E X)) 0 t y ↔ ∃ (k : Nat) (e : Ld) (t' u : List Nat), (fzE f E X)[k]? = some e ∧ t = t' ++ u ∧ Way (orE (edgeL (fzL f E X)) (esE (fzE f E X))) 0 t' e.1 ∧ midsP (offM (fzN f E) (fzE f E X) k) (allP e.2.2.1 e.2.2.2) u y) := fun y hy => by
    rw [← noE_way]
    show Way (orE (edgeL (leadsL (fzL f E X) (fzE f E X))) noE) 0 t y ↔ _
    rw [leads_mid _ _ noE hok hin (noE_in _) (by rw [hN]; exact hNp) (by rw [hN]; exact hy), hN]
    constructor
    · rintro ⟨k, e, t', u, h1, h2, h3, h4⟩
      exact ⟨k, e, t', u, h1, h2, orE_no.1 h3, h4⟩
    · rintro ⟨k, e, t', u, h1, h2, h3, h4⟩
      exact ⟨k, e, t', u, h1, h2, orE_no.2 h3, h4⟩
  have hmet : ∀ {w : List Int}, (∀ c ∈ w, wholeB c = true) → ∀ y, Way (orE (edgeL (fzL f E X)) (esE (fzE f E X))) 0 (encs w) y ↔ Met f E X w y := fun {w} hw y => by
    have h1 : Way (orE (edgeL (fzL f E X)) (esE (fzE f E X))) 0 (encs w) y ↔ CW (frF f.length E X) (fzE f E X) 0 w y := cw_iff (fuz_edge _ _ _) hw
    have h2 := cw_fw (f := f) (E := E) (X := X) (u := w) (fun c hc => by
      have h : 0 ≤ c ∧ c ≤ 1114111 ∧ (c < 55296 ∨ 57343 < c) := of_decide_eq_true (hw c hc)
      exact ⟨h.1, h.2.1⟩) (i := 0) (k := 0) (z := y) (Nat.zero_le _) (Nat.zero_le _)
    rw [show atS E 0 0 = 0 by unfold atS; omega] at h2
    rw [h1]
    refine h2.trans ⟨?_, ?_⟩
    · rintro ⟨j, m, rfl, h3, h4⟩
      exact ⟨j, m, by rw [Nat.zero_add], by omega, h4⟩
    · rintro ⟨j, m, rfl, h3, h4⟩
      exact ⟨j, m, by rw [Nat.zero_add], by omega, h4⟩
  by_cases hmid : ∃ (k : Nat) (e : Ld) (t' u : List Nat) (y : Nat), (fzE f E X)[k]? = some e ∧ t = t' ++ u ∧ Way (orE (edgeL (fzL f E X)) (esE (fzE f E X))) 0 t' e.1 ∧ midsP (offM (fzN f E) (fzE f E X) k) (allP e.2.2.1 e.2.2.2) u y
  · obtain ⟨k0, e0, t', u, y0, h1, rfl, h2, h3⟩ := hmid
    have hsu : SSh u := mid_ssh (fun _ h => h) h3
    have hpu : Prt u := mid_prt (fun _ h => h) h3
    obtain ⟨w, hw, rfl⟩ := way_enc hemp (fz_full hf) h2
    obtain ⟨P, js, full, hin2, hP, hjs, hfu⟩ := met_code hE hX ((hmet hw _).1 h2)
    have hwP : ∀ y, Way (orE (edgeL (fzL f E X)) (esE (fzE f E X))) 0 (encs w) y ↔ P y := fun y => (hmet hw y).trans (hP y)
    have hset : setL (fuzA f E X).length (fun y => Way (edgeL (fuzA f E X)) 0 (encs w ++ u) y) = setL (fuzA f E X).length (Mex f E X P u) := setL_congr fun y _ => by
      by_cases hyn : y < fzN f E
      · rw [hb y hyn]
        constructor
        · intro hwy
          exfalso
          obtain ⟨t'', v, e, h4, h5, h6, _⟩ := way_last hemp hwy (fun e => prt_ne hpu (List.append_eq_nil_iff.1 e).2)
          obtain ⟨r, hr, hfr⟩ := h6
          obtain ⟨_, rfl⟩ := ssh_one hsu (fit_ssh hr hfr) h4
          exact seg_prt (a := []) (fit_seg hr hfr) hpu (List.append_nil _)
        · rintro ⟨k, e, _, _, hp⟩
          have h5 := (midsP_in hp).1
          have h6 : fzN f E ≤ offM (fzN f E) (fzE f E X) k := offM_ge
          omega
      · rw [hm y (by omega)]
        constructor
        · rintro ⟨k, e, t'', v, hk, h4, h5, h6⟩
          obtain ⟨h7, rfl⟩ := ssh_one hsu (mid_ssh (fun _ h => h) h6) h4
          rw [← h7] at h5
          exact ⟨k, e, hk, (hwP _).1 h5, h6⟩
        · rintro ⟨k, e, hk, hp, h6⟩
          exact ⟨k, e, encs w, u, hk, rfl, (hwP _).2 hp, h6⟩
    rw [hset]
    by_cases hlet : ∃ (k : Nat) (e : Ld) (y : Nat), (fzE f E X)[k]? = some e ∧ P e.1 ∧ ¬ (e.2.2.1 = 0 ∧ e.2.2.2 = 1114111) ∧ midsP (offM (fzN f E) (fzE f E X) k) (allP e.2.2.1 e.2.2.2) u y
    · obtain ⟨k, e, y, hk, hp, hne, h6⟩ := hlet
      obtain ⟨i, m, hi, hmE, h⟩ := fuzE_mem.1 (List.mem_of_getElem? hk)
      rcases h with ⟨c, h7, rfl⟩ | ⟨_, _, rfl⟩ | ⟨_, _, _, rfl⟩
      · obtain ⟨hc1, hc2⟩ := hf c (List.mem_of_getElem? h7)
        obtain ⟨k1, k2, k3⟩ := mid_letter hc1 h6
        have k4 := enc3 hc2
        refine hin2 _ ?_
        unfold candP
        refine List.mem_append_left _ (List.mem_cons_of_mem _ (List.mem_map.2 ⟨u, List.mem_flatMap.2 ⟨i, hjs i m hp hmE, ?_⟩, rfl⟩))
        unfold partsAt
        rw [h7]
        unfold partsL
        have h8 : u.length = 1 ∨ u.length = 2 := by omega
        rcases h8 with h8 | h8
        · rw [h8] at k3
          exact List.mem_cons.2 (.inl k3)
        · rw [h8] at k3
          exact List.mem_cons_of_mem _ (List.mem_singleton.2 k3)
      · exact absurd ⟨rfl, rfl⟩ hne
      · exact absurd ⟨rfl, rfl⟩ hne
    · have hfull : ∀ {k : Nat} {e : Ld} {y : Nat}, (fzE f E X)[k]? = some e → P e.1 → midsP (offM (fzN f E) (fzE f E X) k) (allP e.2.2.1 e.2.2.2) u y → e.2.2.1 = 0 ∧ e.2.2.2 = 1114111 := fun {k e y} a b c => Classical.byContradiction fun d => hlet ⟨k, e, y, a, b, d, c⟩
      have hp0 := (hwP _).1 h2
      obtain ⟨g1, g2⟩ := hfull h1 hp0 h3
      have hF : full = true := by
        obtain ⟨i, m, hi, hmE, h⟩ := fuzE_mem.1 (List.mem_of_getElem? h1)
        rcases h with ⟨c, h7, rfl⟩ | ⟨k1, k2, rfl⟩ | ⟨k1, k2, _, rfl⟩
        · have h8 := (hf c (List.mem_of_getElem? h7)).2
          have g1 : c = 0 := g1
          have g2 : c = 1114111 := g2
          omega
        · exact hfu i m k1 k2 hp0
        · exact hfu i m k1 k2 hp0
      rw [g1, g2] at h3
      obtain ⟨v, hv, hsame⟩ := full_one18 h3
      refine hin2 _ ?_
      unfold candP
      rw [hF, if_pos rfl]
      refine List.mem_append_right _ (List.mem_map.2 ⟨v, hv, setL_congr fun y _ => ⟨?_, ?_⟩⟩)
      · rintro ⟨k, e, hk, hp, hes, h6⟩
        refine ⟨k, e, hk, hp, ?_⟩
        rw [hes.1, hes.2]
        exact (hsame _ _).2 h6
      · rintro ⟨k, e, hk, hp, h6⟩
        have hes := hfull hk hp h6
        rw [hes.1, hes.2] at h6
        exact ⟨k, e, hk, hp, hes, (hsame _ _).1 h6⟩
  · have hup : ∀ y, fzN f E ≤ y → ¬ Way (edgeL (fuzA f E X)) 0 t y := fun y hy h => by
      obtain ⟨k, e, t', u, h1, h2, h3, h4⟩ := (hm y hy).1 h
      exact hmid ⟨k, e, t', u, y, h1, h2, h3, h4⟩
    by_cases hsome : ∃ y, Way (orE (edgeL (fzL f E X)) (esE (fzE f E X))) 0 t y
    · obtain ⟨y0, h0⟩ := hsome
      obtain ⟨w, hw, rfl⟩ := way_enc hemp (fz_full hf) h0
      obtain ⟨P, js, full, hin2, hP, hjs, hfu⟩ := met_code hE hX ((hmet hw _).1 h0)
      have hwP : ∀ y, Way (orE (edgeL (fzL f E X)) (esE (fzE f E X))) 0 (encs w) y ↔ P y := fun y => (hmet hw y).trans (hP y)
      refine hin2 _ ?_
      unfold candP
      refine List.mem_append_left _ (List.mem_cons.2 (.inl (setL_congr fun y _ => ?_)))
      by_cases hyn : y < fzN f E
      · rw [hb y hyn, hwP]
      · refine ⟨fun h => absurd h (hup y (by omega)), fun h => ?_⟩
        exfalso
        obtain ⟨j, k, rfl, hk, hfw⟩ := (hP y).2 h
        have := (hfw.le (Nat.zero_le _)).2
        exact hyn (atS_lt this hk)
    · unfold candA
      refine List.mem_append_left _ (List.mem_cons.2 (.inl (setL_congr fun y _ => ?_)))
      refine ⟨fun h => ?_, fun h => h.elim⟩
      by_cases hyn : y < fzN f E
      · exact hsome ⟨y, (hb y hyn).1 h⟩
      · exact hup y (by omega) h
end Go.Proofs.YtclahhkcbkpofaaDoor
/- Arguments of texts. -/
namespace Go.Proofs.YtclahhkcbkpofaaDoor
open Go.RowKit Go.Maps
theorem ty_texts : tyOf Tryd.prog 8 45 = some (.slice .str 16) := by kernel_rfl
/-- An argument of texts. -/
structure TextsIn (w : World) (A : Option Addr) (n c : Nat) (x : Nat → ByteArray) : Prop where
  nc : n ≤ c
  cm : c ≤ maxLen
  rb : n * 16 ≤ reachBytes
  sl : Sl w w.heap.size 1 A n ((List.range n).map fun i => .string (x i))
  sz : ∀ i, i < n → (x i).size ≤ reachBytes
theorem texts_in {w : World} {A : Option Addr} {n c : Nat} {x : Nat → Ty.str.den} {cs : List Value} (h : Reads w w.heap.size (.slice .str 16) (⟨A, n, c⟩, x) cs) : TextsIn w A n c x := by
  have hs := h.sl (e := .str) (fun d => rfl)
  refine ⟨h.2.1.1, h.2.1.2.1, h.2.1.2.2.1, ?_, fun i hi => ?_⟩
  · have e : ((List.range n).flatMap fun i => Ty.cells .str (x i)) = (List.range n).map fun i => .string (x i) := by
      rw [List.map_eq_flatMap]
      rfl
    rw [← e]
    exact hs
  · obtain ⟨cl, z, hz, _, h1, h2⟩ := h.elem hi
    have hz' : (x i : ByteArray) = z := hz
    rw [hz']
    exact h2
/-- One of the texts. -/
theorem TextsIn.get {w W : World} {A : Option Addr} {n c : Nat} {x : Nat → ByteArray} (h : TextsIn w A n c x) (hb : Below w.heap.size w W) {i : Nat} (hi : i < n) : ∃ b off t, A = some ⟨b, off, none⟩ ∧ b < W.heap.size ∧ x i = ⟨(t : List UInt8).toArray⟩ ∧ t.length ≤ 1125899906842624 ∧ W.cell? ⟨b, off + i, none⟩ = some (.string ⟨t.toArray⟩) := by
  obtain ⟨b, off, hA, hb0, hcell⟩ := h.sl.at_ hi
  have hc0 := hcell i (.string (x i)) (by rw [List.getElem?_map, List.getElem?_range hi]; rfl)
  have ht : x i = ⟨(x i).data.toList.toArray⟩ := by cases x i; simp
  refine ⟨b, off, (x i).data.toList, hA, Nat.lt_of_lt_of_le hb0 hb.size, ht, ?_, ?_⟩
  · have h1 := h.sz i hi
    have h2 : (x i).data.toList.length = (x i).size := rfl
    rw [h2]
    unfold reachBytes at h1
    omega
  · rw [← ht]
    exact (hb.cell (p := ⟨b, off + i, none⟩) hb0).trans hc0
end Go.Proofs.YtclahhkcbkpofaaDoor
/- Arguments of any depth whose bulk is bounded: lengths of all lists in them. -/
namespace Go.Proofs.YtclahhkcbkpofaaDoor
open Go.RowKit Go.ChangeShapes Go.WideShapes Go.Deep
/-- What a bulk bounds. -/
structure BulkLaw {H : Type} (bulk : DataW H → Nat) : Prop where
  len : ∀ es sp : List (DataW H), es.length ≤ bulk (.slice es sp)
  elem : ∀ (es sp : List (DataW H)) d, d ∈ es → bulk d ≤ bulk (.slice es sp)
  part : ∀ (ps : List (DataW H)) d, d ∈ ps → bulk d ≤ bulk (.agg ps)
  str : ∀ s : List UInt8, s.length ≤ bulk (.lit (.string s))
/-- All lists in it have at most M elements. -/
def Few (M : Nat) : (t : Ty) → t.den → Prop
  | .slice e _, d => d.1.n ≤ M ∧ ∀ i, i < d.1.n → Few M e (d.2 i)
  | .cons f r, d => Few M f d.1 ∧ Few M r d.2
  | .str, d => (show ByteArray from d).size ≤ M
  | _, _ => True
section
variable {H : Type} {enc : TypeId × Value → H} {P : Program} {w : World} {base : Nat} {spare : Nat → Bool} {held : Bool}
theorem readb_fields {bulk : DataW H → Nat} (bk : BulkLaw bulk) {M : Nat} {k n : Nat} (ih : ∀ (t : TypeId) (τ : Ty), tyOf P k t = some τ → ∀ (fuel : Nat) (cs : List Value) (x : DataW H × List MemPlace), DataW.trod enc P w base spare held fuel t cs = some x → Small P t x.1 → bulk x.1 ≤ M → ∃ d : τ.den, Reads w w.heap.size τ d cs ∧ Few M τ d) (cs : List Value) :
    ∀ (fs : List Field) (o : Nat) (τ : Ty), tyFields P (tyOf P k) fs o = some τ → cs.length = o + τ.size →
      (∀ f ∈ fs, ∃ y : DataW H × List MemPlace, DataW.trod enc P w base spare held n f.type ((cs.drop f.offset).take (P.cellsOf f.type)) = some y ∧ Small P f.type y.1 ∧ bulk y.1 ≤ M) → ∃ d : τ.den, Reads w w.heap.size τ d (cs.drop o) ∧ Few M τ d
  | [], o, τ, h, hl, _ => by
    rw [tyFields] at h
    injection h with h
    subst h
    exact ⟨(), List.drop_eq_nil_of_le (by rw [hl]; exact Nat.le_refl _), trivial⟩
  | f :: fs, o, τ, h, hl, hf => by
    rw [tyFields] at h
    split at h
    · rename_i ho
      split at h
      · rename_i τ0 h0
        split at h
        · rename_i hc
          cases hr : tyFields P (tyOf P k) fs (o + τ0.size) with
          | none => rw [hr] at h; cases h
          | some τ1 =>
            rw [hr] at h
            injection h with h
            subst h
            have hl' : cs.length = o + τ0.size + τ1.size := by rw [hl]; show o + (τ0.size + τ1.size) = _; omega
            obtain ⟨y, hy, hs, hbk⟩ := hf f (List.mem_cons_self ..)
            obtain ⟨d0, r0, f0⟩ := ih f.type τ0 h0 n _ y hy hs hbk
            obtain ⟨d1, r1, f1⟩ := readb_fields bk ih cs fs (o + τ0.size) τ1 hr hl' (fun g hg => hf g (List.mem_cons_of_mem _ hg))
            rw [hc, ho] at r0
            refine ⟨(d0, d1), ⟨(cs.drop o).take τ0.size, cs.drop (o + τ0.size), ?_, ?_, r0, r1⟩, f0, f1⟩
            · rw [← List.drop_drop, List.take_append_drop]
            · rw [List.length_take, List.length_drop]; omega
        · cases h
      · cases h
    · cases h
theorem readb_of {bulk : DataW H → Nat} (bk : BulkLaw bulk) {M : Nat} : ∀ (k : Nat) (t : TypeId) (τ : Ty), tyOf P k t = some τ → ∀ (fuel : Nat) (cs : List Value) (x : DataW H × List MemPlace), DataW.trod enc P w base spare held fuel t cs = some x → Small P t x.1 → bulk x.1 ≤ M → ∃ d : τ.den, Reads w w.heap.size τ d cs ∧ Few M τ d
  | 0, t, τ, h, _, _, _, _, _, _ => by rw [tyOf] at h; cases h
  | k + 1, t, τ, h, fuel, cs, x, hx, hs, hM => by
    have ih := readb_of bk (M := M) k
    rw [tyOf] at h
    split at h
    · rename_i kk hu
      injection h with h
      subst h
      obtain ⟨z, e, _, wz⟩ := DataW.trod_int hu hx
      exact ⟨z, ⟨z, rfl, e, wz⟩, trivial⟩
    · rename_i hu
      injection h with h
      subst h
      obtain ⟨b, e, _⟩ := DataW.trod_bool hu hx
      exact ⟨b, ⟨b, rfl, e⟩, trivial⟩
    · rename_i hu
      injection h with h
      subst h
      obtain ⟨s, e, ex, hm⟩ := DataW.trod_string hu hx
      subst ex
      refine ⟨s, ⟨s, rfl, e, hm, ?_⟩, ?_⟩
      · have := hs s.data.toList.length (by simp [DataW.weights])
        simpa using this
      · have := bk.str s.data.toList
        have h2 : s.data.toList.length = s.size := rfl
        show s.size ≤ M
        exact Nat.le_trans (by rw [← h2]; exact this) hM
    · rename_i e hu
      split at h
      · rename_i τ0 h0
        split at h
        · rename_i hc
          obtain ⟨hc, hp⟩ := hc
          injection h with h
          subst h
          rcases open_slice hu hx with ⟨hcs, _⟩ | ⟨a, len, cap, mm, nn, D, Pl, hcs, _, hlc, hcm, hmm, ex, hi⟩
          · obtain ⟨x0⟩ := Ty.inh τ0
            exact ⟨(⟨none, 0, 0⟩, fun _ => x0), ⟨hcs, ⟨Nat.le_refl _, Nat.zero_le _, by rw [Nat.zero_mul]; exact Nat.zero_le _, fun _ => rfl⟩, fun h => absurd h (Nat.lt_irrefl _)⟩, Nat.zero_le _, fun i h => absurd h (Nat.not_lt_zero _)⟩
          · have hle : len ≤ mm := by rw [hmm]; split <;> omega
            subst ex
            have hsl : Small P t (DataW.slice ((List.range len).map D) ((List.range (mm - len)).map fun j => D (len + j))) := hs
            have hbytes : len * P.bytesOf e ≤ reachBytes := by
              have := hsl ((((List.range len).map D).length + ((List.range (mm - len)).map fun j => D (len + j)).length) * P.bytesOf e) (by simp [DataW.weights, hu])
              refine Nat.le_trans (Nat.mul_le_mul_right _ ?_) this
              simp
            have row : ∀ i, i < len → ∃ d : τ0.den, ∃ cl : List Value, cl.length = τ0.size ∧ (∀ j u, cl[j]? = some u → w.cell? ((a.add (i * τ0.size)).add j) = some u) ∧ Reads w w.heap.size τ0 d cl ∧ Few M τ0 d := by
              intro i hin
              obtain ⟨cs', hcs', htr⟩ := hi i (by omega)
              rw [hc] at hcs'
              obtain ⟨_, hcl, hat⟩ := World.cells?_some hcs'
              obtain ⟨d, hd, hfw⟩ := ih e τ0 h0 nn cs' _ htr (fun n hn => hsl n (by
                rw [DataW.weights, hu]
                simp only [List.mem_cons, List.mem_append]
                exact .inr (.inl (weights_mem_all (List.mem_map.2 ⟨i, List.mem_range.2 hin, rfl⟩) n hn)))) (Nat.le_trans (bk.elem _ _ _ (List.mem_map.2 ⟨i, List.mem_range.2 hin, rfl⟩)) hM)
              refine ⟨d, cs', hd.len, fun j u hu => ?_, hd, hfw⟩
              have hj : j < τ0.size := by have := (List.getElem?_eq_some_iff.1 hu).1; have := hd.len; omega
              rw [hat j hj, hu]
            haveI : Inhabited τ0.den := ⟨Classical.choice (Ty.inh τ0)⟩
            obtain ⟨g, hg⟩ := choose_lt' row
            refine ⟨(⟨some a, len, cap⟩, g), ⟨hcs, ⟨hlc, hcm, hbytes, fun e => by cases e⟩, fun hn => ?_⟩, by
              have h1 := bk.len ((List.range len).map D) ((List.range (mm - len)).map fun j => D (len + j))
              rw [List.length_map, List.length_range] at h1
              exact Nat.le_trans h1 hM, fun i hin => by
              obtain ⟨cl, _, _, _, h5⟩ := hg i hin
              exact h5⟩
            have hn' : 0 < len := hn
            obtain ⟨cl, hl, hcell, _⟩ := hg 0 hn'
            have h00 := hcell 0 (cl[0]'(by omega)) (List.getElem?_eq_getElem _)
            obtain ⟨hb, hsp⟩ := lt_of_cell h00
            simp only [Nat.zero_mul, Addr.add, if_true] at hb hsp
            obtain ⟨ab, ao, asp⟩ := a
            simp only at hb hsp
            subst hsp
            refine ⟨ab, ao, rfl, hb, fun i hin => ?_⟩
            obtain ⟨cl, hl, hcell, hr, _⟩ := hg i hin
            refine ⟨cl, hl, fun j u hu => ?_, hr⟩
            have := hcell j u hu
            rw [Addr.add_lit, Addr.add_lit, Nat.add_assoc] at this
            exact this
        · cases h
      · cases h
    · rename_i fs hu
      split at h
      · rename_i τ0 h0
        split at h
        · rename_i hc
          injection h with h
          subst h
          obtain ⟨xs, n, _, ex, hl, hxl, hf⟩ := DataW.trod_struct hu hx
          subst ex
          have hS : Small P t (DataW.agg (xs.map (·.1))) := hs
          have hMb : bulk (DataW.agg (xs.map (·.1))) ≤ M := hM
          have := readb_fields bk (n := n) ih cs fs.toList 0 τ0 h0 (by rw [hl, hc, Nat.zero_add]) (fun f hm => by
            obtain ⟨i, hi⟩ := List.mem_iff_getElem?.1 hm
            have hi' : fs[i]? = some f := by simpa using hi
            have hlt : i < xs.length := by rw [hxl]; exact (Array.getElem?_eq_some_iff.1 hi').1
            refine ⟨xs[i], by rw [hf i f hi', List.getElem?_eq_getElem hlt], fun m hm' => hS m ?_, Nat.le_trans (bk.part _ _ (List.mem_map.2 ⟨xs[i], List.getElem_mem hlt, rfl⟩)) hMb⟩
            rw [DataW.weights, hu]
            exact DataW.weights_mem_each (j := i) (t := f.type) (d := xs[i].1) (by simp [hi]) (by simp [hlt]) m hm')
          rwa [List.drop_zero] at this
        · cases h
      · cases h
    · cases h
theorem open_deepb {bulk : DataW H → Nat} (bk : BulkLaw bulk) {M : Nat} {k bytes : Nat} {t : TypeId} {e : Ty} {A : Option Addr} {n c : Nat} {d : DataW H} {p : List MemPlace} (hT : tyOf P k t = some (.slice e bytes)) (h : DataW.Trod enc P w base spare held t (.slice A n c) d p) (hs : Small P t d) (hM : bulk d ≤ M) :
    ∃ x : Nat → e.den, Reads w w.heap.size (.slice e bytes) (⟨A, n, c⟩, x) [.slice A n c] ∧ n ≤ M ∧ ∀ i, i < n → Few M e (x i) := by
  obtain ⟨m, hm⟩ := h
  obtain ⟨⟨⟨A', n', c'⟩, x⟩, hr, hf⟩ := readb_of bk k t _ hT m _ _ hm hs hM
  have e : [Value.slice A n c] = [.slice A' n' c'] := hr.1
  simp only [List.cons.injEq, Value.slice.injEq, and_true] at e
  obtain ⟨rfl, rfl, rfl⟩ := e
  exact ⟨x, hr, hf.1, hf.2⟩
end
end Go.Proofs.YtclahhkcbkpofaaDoor
/- Arguments of texts, of a bounded bulk. -/
namespace Go.Proofs.YtclahhkcbkpofaaDoor
open Go.RowKit Go.Maps
/-- An argument of texts that are not too long. -/
structure TextsB (w : World) (A : Option Addr) (n c : Nat) (x : Nat → ByteArray) : Prop where
  ok : TextsIn w A n c x
  few : ∀ i, i < n → (x i).size ≤ 1048576
theorem textsb_in {w : World} {A : Option Addr} {n c : Nat} {x : Nat → Ty.str.den} {cs : List Value} (h : Reads w w.heap.size (.slice .str 16) (⟨A, n, c⟩, x) cs) (_ : n ≤ 1048576) (hf : ∀ i, i < n → Few 1048576 .str (x i)) : TextsB w A n c x := ⟨texts_in h, fun i hi => hf i hi⟩
theorem TextsB.get {w W : World} {A : Option Addr} {n c : Nat} {x : Nat → ByteArray} (h : TextsB w A n c x) (hb : Below w.heap.size w W) {i : Nat} (hi : i < n) : ∃ b off t, A = some ⟨b, off, none⟩ ∧ b < W.heap.size ∧ (t : List UInt8).length ≤ 1048576 ∧ W.cell? ⟨b, off + i, none⟩ = some (.string ⟨t.toArray⟩) := by
  obtain ⟨b, off, t, h1, h2, h3, _, h5⟩ := h.ok.get hb hi
  refine ⟨b, off, t, h1, h2, ?_, h5⟩
  have h6 := h.few i hi
  rw [h3] at h6
  exact h6
end Go.Proofs.YtclahhkcbkpofaaDoor
/- The walk of FuzzyTakes. -/
namespace Go.Proofs.YtclahhkcbkpofaaDoor
open Go.RowKit
open Sp
set_option linter.unusedVariables false
theorem FzE.nz {t : List UInt8} {E X z : Int} (h : FzE t E X z) : z ≠ 0 := by
  rcases h with ⟨_, _, _, h⟩ | ⟨h, _⟩ | ⟨h, _⟩
  · exact h
  · omega
  · omega
set_option maxRecDepth 100000 in
set_option maxHeartbeats 8000000 in
theorem ftakes_bad (w : World) (t : List UInt8) (ht : t.length ≤ 17592186044414) (E X z : Int) (hz : FzE t E X z) (hT : Tab w) (A : Option Addr) (n c : Nat) :
    Calls Tryd.prog 6 #[.string ⟨t.toArray⟩, .int .i64 E, .int .i64 X, .slice A n c] w fun e w' => e = .returned (.bool true) ∧ Below w.heap.size w w' := by
  have HF := Lib.hid (fuzzy_bad w t ht E X z hz)
  have HT := Lib.hid hT
  have HZ := Lib.hid hz
  have hz0 := hz.nz
  have q0 : (z == 0) = false := by rw [beq_eq_false_iff_ne]; exact hz0
  clear hT hz
  go_enter Tryd.func6, Tryd.ntmps6
  go_wp2_with fail
  refine HF.out.mono ?_
  rintro e w1 ⟨hb1, rfl⟩
  have HB1 := Lib.hid hb1
  clear hb1 HF
  go_wp2_with fail
  refine (fmay_any w1 t ht E X).mono ?_
  rintro e w2 ⟨hb2, ⟨v, l, rfl, hd, hl, hbd, _⟩ | ⟨y, rfl, hy, hzy⟩⟩
  · exact (HZ.out.no hd hl hbd).elim
  · obtain rfl := HZ.out.one hzy
    have HB2 := Lib.hid (bcall HB1.out hb2)
    clear hb2 hy hzy
    go_wp2_with fail
    refine (fawake_any w2 (HT.out.below HB2.out)).mono ?_
    rintro e w3 ⟨rfl, hb3⟩
    have HB3 := Lib.hid (bcall HB2.out hb3)
    clear hb3
    go_wp2_with fail
    refine (fawake_any w3 (HT.out.below HB3.out)).mono ?_
    rintro e w4 ⟨rfl, hb4⟩
    have HB4 := Lib.hid (bcall HB3.out hb4)
    clear hb4
    go_wp2_with fail
    go_ret
    exact ⟨rfl, HB4.out⟩
theorem let_whole {c : Int} (h : letB c = true) : wholeB c = true ∧ c ≤ 65535 := by
  have := let_cases c
  simp only [h, Bool.true_eq_false, and_false, and_true, false_or, or_false] at this
  refine ⟨wholeB_yes (by omega), by omega⟩
theorem lets_w {f : List Int} (h : letsE f [] = 0) : LetW f := fun c hc => let_whole (all_letter (lets_zero h).2.2 hc)
set_option maxRecDepth 100000 in
set_option maxHeartbeats 8000000 in
theorem ftakes_good (w : World) (t : List UInt8) (ht : t.length ≤ 17592186044414) (E X : Nat) (l : List Int) (hl : Dec (bytesN t) l) (he : letsE (l.map foldI) [] = 0) (hE : E ≤ 2) (hX : X ≤ l.length) (hT : Tab w) (A : Option Addr) (n c : Nat) (x : Nat → ByteArray) (hx : TextsB w A n c x) :
    Calls Tryd.prog 6 #[.string ⟨t.toArray⟩, .int .i64 (E : Int), .int .i64 (X : Int), .slice A n c] w fun e w' => e = .returned (.bool true) ∧ Below w.heap.size w w' := by
  obtain ⟨f, hf⟩ : ∃ f, l.map foldI = f := ⟨_, rfl⟩
  have hfl : f.length = l.length := by rw [← hf, List.length_map]
  have he2 := he
  rw [hf] at he2
  have HF := Lib.hid (fuzzy_any w t ht hT l hl he f hf E X hE (by omega) (fuz_sets hE (lets_zero he2).1 (by omega) (lets_w he2)))
  have HT := Lib.hid hT
  have HD := Lib.hid hl
  have HE := Lib.hid he
  have HX := Lib.hid hx
  clear hT hl he he2 hx
  go_enter Tryd.func6, Tryd.ntmps6
  go_wp2_with fail
  refine HF.out.mono ?_
  rintro e w1 ⟨hb1, A1, c1, hs, rfl, hst, hh, hgd, htk⟩
  have HB1 := Lib.hid hb1
  have HS1 := Lib.hid hst
  have HG1 := Lib.hid hgd
  have HK1 := Lib.hid htk
  obtain ⟨nh, hnh⟩ : ∃ k, hs.length = k := ⟨_, rfl⟩
  rw [hnh] at HS1 hh ⊢
  clear hb1 hst hgd htk HF hnh
  go_wp2_with fail
  refine (fmay_any w1 t ht (E : Int) (X : Int)).mono ?_
  rintro e w2 ⟨hb2, ⟨v, l', rfl, hd, hle', hbd', ho⟩ | ⟨y, rfl, hy, hzy⟩⟩
  · obtain rfl := hd.inj HD.out
    rw [hf] at ho
    obtain ⟨A2, cp, rfl, hcp⟩ := own_shape ho
    have HB2 := Lib.hid (bcall HB1.out hb2)
    have HS2 := Lib.hid (HS1.out.keep hb2 (Nat.le_refl _))
    have HSL := Lib.hid (Sl.of_own ho)
    obtain ⟨m, hm⟩ : ∃ k, l'.length = k := ⟨_, rfl⟩
    rw [hm] at HSL hX hfl hcp ⊢
    have hs2 := hb2.size
    clear hb2 hd ho hm hle' hbd'
    go_wp2_with fail
    refine (fawake_any w2 (HT.out.below HB2.out)).mono ?_
    rintro e w3 ⟨rfl, hb3⟩
    have HB3 := Lib.hid (bcall HB2.out hb3)
    have HS3 := Lib.hid (HS2.out.keep (hb3.mono hs2) (Nat.le_refl _))
    have hs23 := hb3.size
    have HSL3 := Lib.hid (HSL.out.below hb3)
    clear hb3 HS1 HS2 HSL
    have hs3 : w1.heap.size ≤ w3.heap.size ∧ w2.heap.size ≤ w3.heap.size := ⟨by omega, hs23⟩
    go_wp2_with fail
    go_loopw [13] (fun iv wr => ∃ i : Nat, i ≤ n ∧ i ≤ 20 ∧ iv = .int .i64 (i : Int) ∧ Hid (Below w.heap.size w wr) ∧ Hid (Below w3.heap.size w3 wr)) (fun iv _ => n + 1 - (intOf iv).toNat)
    case atStart => exact ⟨0, Nat.zero_le _, by omega, rfl, HB3, brefl w3⟩
    case round =>
      obtain ⟨i, hin, hi20, rfl, HBR, HBW⟩ := hrel
      by_cases hlt : i < n ∧ i < 20
      · obtain ⟨g1, g2⟩ := hlt
        have q1 : decide (i < n) = true := decide_eq_true g1
        have q2 : decide (i < 20) = true := decide_eq_true g2
        obtain ⟨tb, to_, tx, rfl, ht1, ht2, ht3⟩ := HX.out.get HBR.out g1
        go_wp2_with fail
        refine (rdecode_any wr tx (by omega)).mono ?_
        rintro e w5 ⟨hb5, ⟨v, l5, rfl, hd5, ho5⟩ | ⟨rfl, hno⟩⟩
        · obtain ⟨A5, c5, rfl, hc5⟩ := own_shape ho5
          have HBR5 := Lib.hid (bcall HBR.out hb5)
          have HBW5 := Lib.hid (bcall HBW.out hb5)
          have hcell := (hb5.cell (p := ⟨tb, to_ + i, none⟩) ht1).trans ht3
          have htb : tb < w5.heap.size := Nat.lt_of_lt_of_le ht1 hb5.size
          have HS5 := Lib.hid (HS3.out.keep (HBW5.out.mono hs3.1) (Nat.le_refl _))
          have HSL5 := Lib.hid (HSL3.out.below (HBW5.out.mono hs3.2))
          have HL5 := Lib.hid (Sl.of_own ho5)
          have HD5 := Lib.hid hd5
          obtain ⟨k5, hk5⟩ : ∃ k, l5.length = k := ⟨_, rfl⟩
          rw [hk5] at HL5 hc5 ⊢
          have HK5 := Lib.hid hk5
          clear hb5 hd5 ho5 hk5 ht1 ht3
          by_cases hk : k5 < 100
          · have q3 : decide (k5 < 100) = true := decide_eq_true hk
            go_wp2_with fail
            refine (accepts_any w5 w1.heap.size (by have := HBW5.out.size; omega) A1 nh c1 hs HS5.out tx (by omega)).mono ?_
            rintro e w6 ⟨rfl, hb6⟩
            have HBR6 := Lib.hid (bcall HBR5.out hb6)
            have HBW6 := Lib.hid (bcall HBW5.out hb6)
            have s1 := (HSL5.out.more (by have := HBW5.out.size; omega)).below hb6
            have s2 := HL5.out.below hb6
            have hz6 := hb6.size
            have htk : takesB (hs.map (·.d)) tx = decide (f.take X <+: l5 ∧ lev (f.drop X) (l5.drop X) ≤ E) := by
              rw [HK1.out tx, Bool.eq_iff_iff, decide_eq_true_eq, near_iff (by omega)]
              exact fuz_takes (by omega) HD5.out
            rw [htk]
            have HNR := Lib.hid (near_any w6 w5.heap.size hz6 A2 A5 m k5 cp c5 f l5 s1 s2 (by have := (lets_zero (hf ▸ HE.out)).1; omega) (by omega) hcp hc5 E X hE hX)
            obtain ⟨nb, hnb⟩ : ∃ b, decide (f.take X <+: l5 ∧ lev (f.drop X) (l5.drop X) ≤ E) = b := ⟨_, rfl⟩
            rw [hnb] at HNR ⊢
            clear hb6 s1 s2 hnb htk hz6
            go_wp2_with fail
            refine HNR.out.mono ?_
            rintro e w7 ⟨rfl, hb7⟩
            have HBR7 := Lib.hid (bcall HBR6.out hb7)
            have HBW7 := Lib.hid (bcall HBW6.out hb7)
            clear hb7 HNR
            go_wp2_with fail
            go_roundw
            case rel => exact ⟨i + 1, by omega, by omega, by go_num, HBR7, HBW7⟩
            case measure => first | (simp [intOf]; done) | (simp [intOf]; omega)
          · have q3 : decide (k5 < 100) = false := decide_eq_false hk
            go_wp2_with fail
            go_roundw
            case rel => exact ⟨i + 1, by omega, by omega, by go_num, HBR5, HBW5⟩
            case measure => first | (simp [intOf]; done) | (simp [intOf]; omega)
        · have HBR5 := Lib.hid (bcall HBR.out hb5)
          have HBW5 := Lib.hid (bcall HBW.out hb5)
          clear hb5 ht1 ht3 hno
          go_wp2_with fail
          go_roundw
          case rel => exact ⟨i + 1, by omega, by omega, by go_num, HBR5, HBW5⟩
          case measure => first | (simp [intOf]; done) | (simp [intOf]; omega)
      · obtain ⟨p1, p2⟩ | p1 : (i < n ∧ ¬ i < 20) ∨ ¬ i < n := by omega
        · have q1 : decide (i < n) = true := decide_eq_true p1
          have q2 : decide (i < 20) = false := decide_eq_false p2
          clear hlt
          go_wp2_with fail
          refine (dcheck_any wr w1.heap.size (by have := HBW.out.size; omega) A1 nh c1 hs (HS3.out.keep (HBW.out.mono hs3.1) (Nat.le_refl _))).mono ?_
          rintro e w5 ⟨rfl, hb5⟩
          rw [(good_iff _).2 HG1.out]
          have HB5 := Lib.hid (bcall HBR.out hb5)
          clear hb5
          go_wp2_with fail
          go_ret
          exact ⟨rfl, HB5.out⟩
        · have q1 : decide (i < n) = false := decide_eq_false p1
          clear hlt
          go_wp2_with fail
          refine (dcheck_any wr w1.heap.size (by have := HBW.out.size; omega) A1 nh c1 hs (HS3.out.keep (HBW.out.mono hs3.1) (Nat.le_refl _))).mono ?_
          rintro e w5 ⟨rfl, hb5⟩
          rw [(good_iff _).2 HG1.out]
          have HB5 := Lib.hid (bcall HBR.out hb5)
          clear hb5
          go_wp2_with fail
          go_ret
          exact ⟨rfl, HB5.out⟩
  · exact (hzy.no HD.out HE.out (by omega)).elim
theorem ftakes_walk (w : World) (t : List UInt8) (ht : t.length ≤ 17592186044414) (E X : Int) (hT : Tab w) (A : Option Addr) (n c : Nat) (x : Nat → ByteArray) (hx : TextsB w A n c x) :
    Calls Tryd.prog 6 #[.string ⟨t.toArray⟩, .int .i64 E, .int .i64 X, .slice A n c] w fun e w' => e = .returned (.bool true) ∧ Below w.heap.size w w' := by
  by_cases hd : ∃ l, Dec (bytesN t) l
  · obtain ⟨l, hl⟩ := hd
    by_cases h0 : letsE (l.map foldI) [] = 0
    · by_cases hb : 0 ≤ E ∧ E ≤ 2 ∧ 0 ≤ X ∧ X ≤ (l.length : Int)
      · obtain ⟨b1, b2, b3, b4⟩ := hb
        obtain ⟨E', rfl⟩ := Int.eq_ofNat_of_zero_le b1
        obtain ⟨X', rfl⟩ := Int.eq_ofNat_of_zero_le b3
        exact ftakes_good w t ht E' X' l hl h0 (by omega) (by omega) hT A n c x hx
      · exact ftakes_bad w t ht E X 1 (.inr (.inr ⟨rfl, l, hl, h0, hb⟩)) hT A n c
    · exact ftakes_bad w t ht E X _ (.inl ⟨l, hl, rfl, h0⟩) hT A n c
  · exact ftakes_bad w t ht E X 7 (.inr (.inl ⟨rfl, fun l h => hd ⟨l, h⟩⟩)) hT A n c
theorem upto_ft {H : Type} {a : List UInt8} {E X : Int} {d : DataW H} (hk : Rows.uptoSmall H ([.lit (.string a), .lit (.int .i64 E), .lit (.int .i64 X), d] ++ []) = true) : a.length ≤ 1048576 := by
  have h := of_decide_eq_true hk
  simp only [List.append_nil, Rows.uptoBulkAll, Rows.uptoBulk] at h
  omega
theorem ftakes_walkc (w : World) {H : Type} {d : DataW H} (s : ByteArray) (_ : s.size ≤ maxLen) (_ : s.data.toList.length ≤ reachBytes) (E : Int) (_ : (Lit.int .i64 E).wf = true) (X : Int) (_ : (Lit.int .i64 X).wf = true) (A : Option Addr) (n c : Nat) (x : Nat → ByteArray) (hx : TextsB w A n c x) (hk : Rows.uptoSmall H ([.lit (.string s.data.toList), .lit (.int .i64 E), .lit (.int .i64 X), d] ++ []) = true) (hT : Tab w) :
    Calls Tryd.prog 6 #[.string s, .int .i64 E, .int .i64 X, .slice A n c] w fun e w' => e = .returned (.bool true) ∧ Below w.heap.size w w' := ftakes_walk w s.data.toList (by have := upto_ft hk; omega) E X hT A n c x hx
end Go.Proofs.YtclahhkcbkpofaaDoor
/- What the bound on the bulk gives. -/
namespace Go.Proofs.YtclahhkcbkpofaaDoor
theorem bulk_one {H : Type} (d : DataW H) : 1 ≤ Rows.uptoBulk d := by
  cases d with
  | lit l => cases l <;> simp [Rows.uptoBulk]
  | nil => simp [Rows.uptoBulk]
  | ptr d => simp [Rows.uptoBulk]
  | slice elems spare => simp [Rows.uptoBulk]
  | agg parts => simp [Rows.uptoBulk]
  | iface t d => simp [Rows.uptoBulk]
  | map entries => simp [Rows.uptoBulk]
  | held h => simp [Rows.uptoBulk]
theorem bulk_mem {H : Type} {d : DataW H} {l : List (DataW H)} (h : d ∈ l) : Rows.uptoBulk d ≤ Rows.uptoBulkAll l := by
  induction l with
  | nil => cases h
  | cons x r ih =>
    simp only [Rows.uptoBulkAll]
    rcases List.mem_cons.1 h with e | e
    · subst e; omega
    · have := ih e; omega
theorem bulk_len {H : Type} (l : List (DataW H)) : l.length ≤ Rows.uptoBulkAll l := by
  induction l with
  | nil => simp [Rows.uptoBulkAll]
  | cons x r ih => have := bulk_one x; simp only [Rows.uptoBulkAll, List.length_cons]; omega
theorem bulk_law (H : Type) : BulkLaw (H := H) Rows.uptoBulk where
  len := fun es sp => by
    have := bulk_len es
    simp only [Rows.uptoBulk]
    omega
  elem := fun es sp d hd => by
    have := bulk_mem hd
    simp only [Rows.uptoBulk]
    omega
  part := fun ps d hd => by
    have := bulk_mem hd
    simp only [Rows.uptoBulk]
    omega
  str := fun s => by simp [Rows.uptoBulk]
theorem bulk_part {H : Type} {l : List (DataW H)} (hk : Rows.uptoSmall H l = true) {d : DataW H} (hd : d ∈ l) : Rows.uptoBulk d ≤ 1048576 := by
  have h1 : Rows.uptoBulkAll l ≤ 1048576 := of_decide_eq_true hk
  exact Nat.le_trans (bulk_mem hd) h1
end Go.Proofs.YtclahhkcbkpofaaDoor
