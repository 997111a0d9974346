/- One round: classes by the texts of states (plain Lean). -/
import Derived.Test.YtclahhkcbkpofaaDoorHFz37
import Derived.Test.YtclahhkcbkpofaaDoorHFz24
namespace Go.Proofs.YtclahhkcbkpofaaDoor
open Go.RowKit
/-- The text of a state. -/
def txt (d : List St) (L : List Bool) (C : List Int) (x : Nat) : List UInt8 :=
  if L.getD x false then sigT (C.getD x 0) ((d.getD x (false, [])).1) (ledA (ledF L C) (d.getD x (false, [])).2) else []
theorem txt_at {d : List St} {L : List Bool} {C : List Int} {x : Nat} {s : St} {c : Int} {b : Bool} (hs : d[x]? = some s) (hb : L[x]? = some b) (hc : C[x]? = some c) : txt d L C x = if b then sigT c s.1 (ledA (ledF L C) s.2) else [] := by
  unfold txt
  rw [List.getD_eq_getElem?_getD, List.getD_eq_getElem?_getD, List.getD_eq_getElem?_getD, hs, hb, hc]
  rfl
/-- Texts in the order in which they are met; which text stands where. -/
structure TxtP (T : Nat → List UInt8) (i : Nat) (ss : List (List UInt8)) (X : List Int) : Prop where
  nd : ss.Nodup
  frm : ∀ s ∈ ss, ∃ j, j < i ∧ T j = s
  at_ : ∀ j, j < i → ∃ q : Nat, idx ss (T j) = some q ∧ X[j]? = some (q : Int)
theorem idx_nd {ss : List (List UInt8)} (h : ss.Nodup) {k : Nat} {s : List UInt8} (hk : ss[k]? = some s) : idx ss s = some k := by
  induction ss generalizing k with
  | nil => cases hk
  | cons x r ih =>
    obtain ⟨h1, h2⟩ := List.nodup_cons.1 h
    rw [idx]
    cases k with
    | zero =>
      simp at hk
      rw [if_pos hk]
    | succ k =>
      have hk : r[k]? = some s := by simpa using hk
      rw [if_neg fun e => h1 (by rw [e]; exact List.mem_of_getElem? hk), ih h2 hk]
      rfl
theorem TxtP.start (T : Nat → List UInt8) (X : List Int) : TxtP T 0 [] X := ⟨List.Pairwise.nil, fun _ hs => absurd hs List.not_mem_nil, fun _ hj => absurd hj (Nat.not_lt_zero _)⟩
theorem TxtP.old {T : Nat → List UInt8} {i q : Nat} {ss : List (List UInt8)} {X : List Int} (h : TxtP T i ss X) (hq : idx ss (T i) = some q) (hi : i < X.length) : TxtP T (i + 1) ss (X.set i (q : Int)) := by
  refine ⟨h.nd, fun s hs => ?_, fun j hj => ?_⟩
  · obtain ⟨j, h1, h2⟩ := h.frm s hs
    exact ⟨j, by omega, h2⟩
  · by_cases e : j = i
    · subst e
      exact ⟨q, hq, by rw [List.getElem?_set, if_pos rfl, if_pos hi]⟩
    · obtain ⟨r, h1, h2⟩ := h.at_ j (by omega)
      exact ⟨r, h1, by rw [List.getElem?_set, if_neg (fun e' => e e'.symm)]; exact h2⟩
theorem TxtP.new {T : Nat → List UInt8} {i : Nat} {ss : List (List UInt8)} {X : List Int} (h : TxtP T i ss X) (hq : idx ss (T i) = none) (hi : i < X.length) : TxtP T (i + 1) (ss ++ [T i]) (X.set i (ss.length : Nat)) := by
  have hnin := idx_none hq
  refine ⟨?_, fun s hs => ?_, fun j hj => ?_⟩
  · refine List.nodup_append.2 ⟨h.nd, List.pairwise_singleton _ _, fun a ha b hb => ?_⟩
    rw [List.mem_singleton.1 hb]
    exact fun e => hnin (by rw [← e]; exact ha)
  · rcases List.mem_append.1 hs with hs | hs
    · obtain ⟨j, h1, h2⟩ := h.frm s hs
      exact ⟨j, by omega, h2⟩
    · exact ⟨i, by omega, (List.mem_singleton.1 hs).symm⟩
  · by_cases e : j = i
    · subst e
      refine ⟨ss.length, ?_, by rw [List.getElem?_set, if_pos rfl, if_pos hi]⟩
      rw [idx_snoc, hq]
      simp
    · obtain ⟨r, h1, h2⟩ := h.at_ j (by omega)
      refine ⟨r, ?_, by rw [List.getElem?_set, if_neg (fun e' => e e'.symm)]; exact h2⟩
      rw [idx_snoc, h1]
theorem TxtP.few {T : Nat → List UInt8} {i : Nat} {ss : List (List UInt8)} {X : List Int} (h : TxtP T i ss X) : ss.length ≤ i := by
  have := all_len ss.length ((List.range i).map fun j => (idx ss (T j)).getD 0) fun k hk => by
    obtain ⟨j, h1, h2⟩ := h.frm ss[k] (List.getElem_mem hk)
    refine List.mem_map.2 ⟨j, List.mem_range.2 h1, ?_⟩
    rw [h2, idx_nd h.nd (List.getElem?_eq_getElem hk)]
    rfl
  rwa [List.length_map, List.length_range] at this
/-- What a list of numbers says. -/
def clsOf (C : List Int) (x : Nat) : Nat := (C.getD x 0).toNat
/-- What a list of classes must be. -/
structure ClsIn (n : Nat) (C : List Int) : Prop where
  len : C.length = n
  in_ : ∀ x ∈ C, 0 ≤ x ∧ x < (n : Int)
theorem TxtP.round {d : List St} {L : List Bool} {C X : List Int} {ss : List (List UInt8)} (hg : Good d) (hl : ∀ (x : Nat) b, L[x]? = some b → (b = true ↔ (auOf d).live x)) (hL : L.length = d.length) (hC : ClsIn d.length C) (hX : X.length = d.length) (h : TxtP (txt d L C) d.length ss X) :
    Round (auOf d) d.length (clsOf C) (clsOf X) ss.length ∧ ClsIn d.length X := by
  have hat : ∀ x, x < d.length → idx ss (txt d L C x) = some (clsOf X x) := fun x hx => by
    obtain ⟨q, h1, h2⟩ := h.at_ x hx
    rw [h1]
    unfold clsOf
    rw [List.getD_eq_getElem?_getD, h2]
    simp
  have honto : Onto d.length (clsOf X) ss.length := by
    refine ⟨fun x hx => (idx_lt (hat x hx)).1, fun k hk => ?_⟩
    obtain ⟨j, h1, h2⟩ := h.frm ss[k] (List.getElem_mem hk)
    refine ⟨j, h1, ?_⟩
    have h3 := idx_nd h.nd (List.getElem?_eq_getElem hk)
    rw [← h2, hat j h1] at h3
    injection h3
  refine ⟨⟨honto, fun x hx y hy => ?_⟩, ⟨hX, fun z hz => ?_⟩⟩
  · have e1 : clsOf X x = clsOf X y ↔ txt d L C x = txt d L C y := by
      constructor
      · intro e
        have h1 := (idx_lt (hat x hx)).2
        have h2 := (idx_lt (hat y hy)).2
        rw [e, h2] at h1
        injection h1 with h1
        exact h1.symm
      · intro e
        have h1 := hat x hx
        rw [e, hat y hy] at h1
        injection h1 with h1
        exact h1.symm
    rw [e1]
    have hcase : ∀ x, x < d.length → ∃ s b c, d[x]? = some s ∧ L[x]? = some b ∧ C[x]? = some c ∧ 0 ≤ c ∧ clsOf C x = c.toNat ∧ (b = true ↔ (auOf d).live x) ∧ (∀ a ∈ ledA (ledF L C) s.2, Pos3 a) ∧ ledA (ledF L C) s.2 = runs (gOf d (clsOf C) x) 256 ∧ (auOf d).fin x = s.1 := fun x hx => by
      obtain ⟨s, hs⟩ : ∃ s, d[x]? = some s := ⟨d[x], List.getElem?_eq_getElem _⟩
      obtain ⟨b, hb⟩ : ∃ b, L[x]? = some b := ⟨L[x]'(by omega), List.getElem?_eq_getElem _⟩
      obtain ⟨c, hc⟩ : ∃ c, C[x]? = some c := ⟨C[x]'(by have := hC.len; omega), List.getElem?_eq_getElem _⟩
      refine ⟨s, b, c, hs, hb, hc, (hC.in_ c (List.mem_of_getElem? hc)).1, ?_, hl x b hb, fun a ha => ?_, led_gOf hg hl hL hs, ?_⟩
      · unfold clsOf
        rw [List.getD_eq_getElem?_getD, hc]
        rfl
      · have := led_in (L := L) (C := C) (hg.asc s (List.mem_of_getElem? hs)) (fun z hz => by have := hC.in_ z hz; have := hg.few; omega) a ha
        exact ⟨this.1.1, this.2.1.1, this.2.2.1⟩
      · show ((d[x]?).map (·.1)).getD false = s.1
        rw [hs]
        rfl
    obtain ⟨s, b, c, hs, hb, hc, hc0, hcx, hlx, hp, hr, hf⟩ := hcase x hx
    obtain ⟨s', b', c', hs', hb', hc', hc0', hcy, hly, hp', hr', hf'⟩ := hcase y hy
    rw [txt_at hs hb hc, txt_at hs' hb' hc']
    unfold keyOf
    have hk : ∀ z, runs (fun c => ((auOf d).stepL z c).map (clsOf C)) 256 = runs (gOf d (clsOf C) z) 256 := fun z => rfl
    rw [hk, hk, ← hr, ← hr', hf, hf', hcx, hcy]
    cases b with
    | true =>
      have hlx' := hlx.1 rfl
      cases b' with
      | true =>
        have hly' := hly.1 rfl
        simp only [hlx', hly', if_true]
        constructor
        · intro e
          obtain ⟨e1, e2, e3⟩ := sigT_inj hc0 hc0' hp hp' e
          rw [e1, e2, e3]
        · intro e
          injection e with e
          injection e with e1 e
          injection e with e2 e3
          rw [show c = c' by omega, e2, e3]
      | false =>
        have hny : ¬ (auOf d).live y := fun hh => by have := hly.2 hh; cases this
        simp only [hlx', hny, if_true, if_false, Bool.false_eq_true]
        exact ⟨fun e => absurd e (sigT_ne _ _ _ hc0), fun e => by cases e⟩
    | false =>
      have hnx : ¬ (auOf d).live x := fun hh => by have := hlx.2 hh; cases this
      cases b' with
      | true =>
        have hly' := hly.1 rfl
        simp only [hly', hnx, if_true, if_false, Bool.false_eq_true]
        exact ⟨fun e => absurd e.symm (sigT_ne _ _ _ hc0'), fun e => by cases e⟩
      | false =>
        have hny : ¬ (auOf d).live y := fun hh => by have := hly.2 hh; cases this
        simp only [hnx, hny, if_false, Bool.false_eq_true]
  · obtain ⟨j, hj⟩ := List.mem_iff_getElem?.1 hz
    have hjn : j < d.length := by rw [← hX]; exact (List.getElem?_eq_some_iff.1 hj).1
    obtain ⟨q, h1, h2⟩ := h.at_ j hjn
    rw [hj] at h2
    injection h2 with h2
    have h3 := (idx_lt h1).1
    have h4 := onto_le honto
    omega
end Go.Proofs.YtclahhkcbkpofaaDoor
