/- Ranges of characters between any states: by characters; how few sets are met (plain Lean). -/
import Derived.Test.YtclahhkcbkpofaaDoorHFz21
import Derived.Test.YtclahhkcbkpofaaDoorHFz6
namespace Go.Proofs.YtclahhkcbkpofaaDoor.Sp
/-- One character's range below 128. -/
theorem allP_one {c : Int} (h0 : 0 ≤ c) (h1 : c < 128) : allP c c = [[(c, c)]] := by
  have hl := all_one c
  have hw : wholeB c = true := wholeB_yes (by omega)
  have p0 : part (max c 0) (min c 1114111) 0 127 = [[(c, c)]] := by
    unfold part
    rw [if_pos (by omega), show max (max c 0) 0 = c by omega, show min (min c 1114111) 127 = c by omega, rowsP_leaf (by unfold cutC; simp)]
    unfold leafC encC
    rw [if_pos h1]
    rfl
  have key : ∀ {X : List (List (Int × Int))}, ([[(c, c)]] ++ X).length ≤ 1 → [[(c, c)]] ++ X = [[(c, c)]] := fun {X} h => by
    cases X with
    | nil => rfl
    | cons x X => simp at h
  rw [all_parts0, p0] at hl ⊢
  exact key hl
end Go.Proofs.YtclahhkcbkpofaaDoor.Sp
namespace Go.Proofs.YtclahhkcbkpofaaDoor
open Sp
/-- Ways by characters. -/
inductive CW (Fr : Nat → Nat → Prop) (es : List Ld) : Nat → List Int → Nat → Prop
  | nil (x : Nat) : CW Fr es x [] x
  | free {x y z : Nat} {l : List Int} (h : Fr x y) (r : CW Fr es y l z) : CW Fr es x l z
  | char {z : Nat} {e : Ld} {c : Int} {l : List Int} (he : e ∈ es) (h1 : e.2.2.1 ≤ c) (h2 : c ≤ e.2.2.2) (r : CW Fr es e.2.1 l z) : CW Fr es e.1 (c :: l) z
theorem esE_seg {es : List Ld} {x y : Nat} {u : List Nat} (h : esE es x u y) : Seg u := by
  obtain ⟨e, _, _, _, r, hr, hf⟩ := h
  exact fit_seg hr hf
theorem cw_iff {E : Edge} {Fr : Nat → Nat → Prop} (hE : ∀ x t y, E x t y ↔ t = [] ∧ Fr x y) {es : List Ld} {x y : Nat} {l : List Int} (hw : ∀ c ∈ l, wholeB c = true) : Way (orE E (esE es)) x (encs l) y ↔ CW Fr es x l y := by
  constructor
  · intro h
    have key : ∀ {x y : Nat} {t : List Nat}, Way (orE E (esE es)) x t y → ∀ {l : List Int}, (∀ c ∈ l, wholeB c = true) → t = encs l → CW Fr es x l y := by
      intro x y t h
      induction h with
      | nil x =>
        intro l _ e
        cases l with
        | nil => exact .nil x
        | cons c l => exact absurd (List.append_eq_nil_iff.1 e.symm).1 encN_ne
      | @cons x y z t u h1 _ ih =>
        intro l hw e
        rcases h1 with h1 | h1
        · obtain ⟨rfl, hf⟩ := (hE _ _ _).1 h1
          exact .free hf (ih hw e)
        · have hs := esE_seg h1
          cases l with
          | nil => exact absurd (List.append_eq_nil_iff.1 e).1 (seg_ne hs)
          | cons c l =>
            have hc := hw c (List.mem_cons_self ..)
            obtain ⟨rfl, e2⟩ := seg_eq hs (enc_seg hc) (show t ++ u = encN c ++ encs l from e)
            obtain ⟨d, hd, rfl, rfl, hf⟩ := h1
            obtain ⟨k1, k2⟩ := (all_fits hc).1 hf
            exact .char hd k1 k2 (ih (fun x hx => hw x (List.mem_cons_of_mem _ hx)) e2)
    exact key h hw rfl
  · intro h
    induction h with
    | nil => exact .nil _
    | free h _ ih => exact .cons (t := []) (.inl ((hE _ _ _).2 ⟨rfl, h⟩)) (ih hw)
    | @char z e c l he h1 h2 _ ih =>
      have hc := hw c (List.mem_cons_self ..)
      exact .cons (t := encN c) (.inr ⟨e, he, rfl, rfl, (all_fits hc).2 ⟨h1, h2⟩⟩) (ih fun x hx => hw x (List.mem_cons_of_mem _ hx))
/-! ### The last character of a text -/
/-- One byte, or a first one and others. -/
def SSh (u : List Nat) : Prop := (∃ c, u = [c] ∧ c ≤ 127) ∨ ∃ c t, u = c :: t ∧ 192 ≤ c ∧ ∀ d ∈ t, 128 ≤ d ∧ d ≤ 191
theorem ssh_one {a b u v : List Nat} (hu : SSh u) (hv : SSh v) (h : a ++ u = b ++ v) : a = b ∧ u = v := by
  have key : ∀ {a b u v : List Nat}, SSh u → SSh v → a ++ u = b ++ v → a.length ≤ b.length → a = b ∧ u = v := by
    intro a b u v hu hv h hl
    obtain ⟨w, rfl⟩ : ∃ w, b = a ++ w := by
      refine ⟨b.drop a.length, ?_⟩
      have h1 := congrArg (List.take a.length) h
      rw [List.take_left', List.take_append_of_le_length hl] at h1
      · have h2 := List.take_append_drop a.length b
        rw [← h1] at h2
        exact h2.symm
      · rfl
    rw [List.append_assoc] at h
    have h := List.append_cancel_left h
    cases w with
    | nil =>
      rw [List.append_nil]
      exact ⟨rfl, h⟩
    | cons c w =>
      exfalso
      have hv0 : ∃ d s, v = d :: s ∧ (d ≤ 127 ∨ 192 ≤ d) := by
        rcases hv with ⟨d, rfl, hd⟩ | ⟨d, s, rfl, hd, _⟩
        · exact ⟨d, [], rfl, .inl hd⟩
        · exact ⟨d, s, rfl, .inr hd⟩
      obtain ⟨d, s, rfl, hd⟩ := hv0
      rw [h] at hu
      rcases hu with ⟨x, e, _⟩ | ⟨x, t, e, _, ht⟩
      · simp at e
      · injection e with _ e
        have h1 : d ∈ t := by rw [← e]; simp
        have h2 := ht d h1
        omega
  rcases Nat.le_total a.length b.length with hl | hl
  · exact key hu hv h hl
  · obtain ⟨h1, h2⟩ := key hv hu h.symm hl
    exact ⟨h1.symm, h2.symm⟩
theorem take_ssh {s : Int} {r : List (Int × Int)} (hr : UOk s r) {u : List Nat} (h0 : u ≠ []) (hl : u.length ≤ r.length) (hf : fitN (r.take u.length) u) : SSh u := by
  obtain ⟨_, _, k1, k2, _, k3⟩ := hr
  cases u with
  | nil => exact absurd rfl h0
  | cons c t =>
    have hg : ∀ (k : Nat) p d, r[k]? = some p → (c :: t)[k]? = some d → p.1 ≤ (d : Int) ∧ (d : Int) ≤ p.2 := fun k p d hp hd => fitN_get hf k p d (by
      rw [List.getElem?_take_of_lt (List.getElem?_eq_some_iff.1 hd).1]
      exact hp) hd
    rw [List.length_cons] at hl
    obtain ⟨p0, hp0⟩ : ∃ p, r[0]? = some p := ⟨r[0]'(by omega), List.getElem?_eq_getElem _⟩
    have h1 := hg 0 p0 c hp0 rfl
    by_cases e : r.length = 1
    · have h2 := k3 e p0 (List.mem_of_getElem? hp0)
      cases t with
      | nil => exact .inl ⟨c, rfl, by omega⟩
      | cons d t => rw [List.length_cons] at hl; omega
    · have h2 := k1 (by omega) p0 hp0
      refine .inr ⟨c, t, rfl, by omega, fun d hd => ?_⟩
      obtain ⟨k, hk⟩ := List.mem_iff_getElem?.1 hd
      have hkl := (List.getElem?_eq_some_iff.1 hk).1
      obtain ⟨p, hp⟩ : ∃ p, r[k + 1]? = some p := ⟨r[k + 1]'(by omega), List.getElem?_eq_getElem _⟩
      have h3 := hg (k + 1) p d hp (by simpa using hk)
      have h4 := k2 (k + 1) p (by omega) hp
      omega
theorem fit_ssh {lo hi : Int} {r : List (Int × Int)} (hr : r ∈ allP lo hi) {u : List Nat} (hf : fitN r u) : SSh u := by
  obtain ⟨s, hs⟩ := all_u lo hi r hr
  have hl := fitN_len hf
  refine take_ssh hs (seg_ne (fit_seg hr hf)) (by omega) ?_
  rw [← hl, List.take_length]
  exact hf
theorem mid_ssh {lo hi : Int} {u : List Nat} {y : Nat} : ∀ {rs' : List (List (Int × Int))} {N : Nat}, (∀ r ∈ rs', r ∈ allP lo hi) → midsP N rs' u y → SSh u
  | [], _, _, h => h.elim
  | r :: rs', N, hs, h => by
    rcases h with ⟨h1, h2, _, h4⟩ | h
    · obtain ⟨s, hr⟩ := all_u lo hi r (hs r (List.mem_cons_self ..))
      exact take_ssh hr (fun e => by rw [e] at h1; simp at h1) (by omega) h4
    · exact mid_ssh (fun r h => hs r (List.mem_cons_of_mem _ h)) h
/-- The last edge of a way that has a text. -/
theorem way_last {E : Edge} {es : List Ld} (hE : ∀ x t y, E x t y → t = []) {x y : Nat} {t : List Nat} (h : Way (orE E (esE es)) x t y) (ht : t ≠ []) : ∃ (t' u : List Nat) (e : Ld), t = t' ++ u ∧ e ∈ es ∧ (∃ r ∈ allP e.2.2.1 e.2.2.2, fitN r u) ∧ Way (orE E (esE es)) x t' e.1 ∧ Way (orE E (esE es)) e.2.1 [] y := by
  refine Way.snoc_ind (motive := fun y t => t ≠ [] → ∃ (t' u : List Nat) (e : Ld), t = t' ++ u ∧ e ∈ es ∧ (∃ r ∈ allP e.2.2.1 e.2.2.2, fitN r u) ∧ Way (orE E (esE es)) x t' e.1 ∧ Way (orE E (esE es)) e.2.1 [] y) (fun h => absurd rfl h) (fun v t u z hw ih he hz => ?_) h ht
  rcases he with he | ⟨e, he, rfl, rfl, hf⟩
  · obtain rfl := hE _ _ _ he
    rw [List.append_nil] at hz
    obtain ⟨t', u, e, rfl, h1, h2, h3, h4⟩ := ih hz
    refine ⟨t', u, e, by rw [List.append_nil], h1, h2, h3, ?_⟩
    exact h4.trans (u := []) (.one (.inl he))
  · exact ⟨t, u, e, rfl, he, hf, hw, .nil _⟩
/-! ### Whole ranges and single characters -/
theorem one_fits {c : Int} (h0 : 0 ≤ c) (h1 : c < 128) {u : List Nat} : (∃ r ∈ allP c c, fitN r u) ↔ u = [c.toNat] := by
  rw [allP_one h0 h1]
  constructor
  · rintro ⟨r, hr, hf⟩
    rw [List.mem_singleton.1 hr] at hf
    match u, hf with
    | [x], hf =>
      obtain ⟨k1, k2, _⟩ := hf
      have k1 : c ≤ (x : Int) := k1
      have k2 : (x : Int) ≤ c := k2
      rw [show x = c.toNat by omega]
    | [], hf => exact hf.elim
    | _ :: _ :: _, hf => exact hf.2.2.elim
  · rintro rfl
    exact ⟨_, List.mem_singleton.2 rfl, by show c ≤ ((c.toNat : Nat) : Int); omega, by show ((c.toNat : Nat) : Int) ≤ c; omega, trivial⟩
theorem one_mid {c : Int} (h0 : 0 ≤ c) (h1 : c < 128) {N y : Nat} {u : List Nat} : ¬ midsP N (allP c c) u y := by
  rw [allP_one h0 h1]
  rintro (⟨k1, k2, _⟩ | h)
  · simp at k2
    rw [k2] at k1
    simp at k1
  · exact h
theorem full_one {c : Int} (h0 : 0 ≤ c) (h1 : c < 128) : ∃ r ∈ allP 0 1114111, fitN r [c.toNat] := by
  have hw : wholeB c = true := wholeB_yes (by omega)
  have := (all_fits (lo := 0) (hi := 1114111) hw).2 ⟨h0, by omega⟩
  have e : encN c = [c.toNat] := by
    have := enc_one (a := c.toNat) (by omega)
    rwa [show ((c.toNat : Nat) : Int) = c by omega] at this
  rwa [e] at this
theorem cands_full : (candsU (allP 0 1114111)).length ≤ 600 := by decide +kernel
/-- A range is all characters, or one of few. -/
def KindE (e : Ld) : Prop := (e.2.2.1 = 0 ∧ e.2.2.2 = 1114111) ∨ (0 ≤ e.2.2.1 ∧ e.2.2.1 < 128 ∧ e.2.2.2 = e.2.2.1)
def fires (k : Nat) (e : Ld) : Bool := (e.2.2.2 == 1114111) || (e.2.2.1 == (k : Int))
def kOf : List Nat → Nat
  | [b] => b
  | _ => 1000
theorem fires_iff {es : List Ld} (hk : ∀ e ∈ es, KindE e) {u : List Nat} {d : Ld} (hd : d ∈ es) (hu : ∃ r ∈ allP d.2.2.1 d.2.2.2, fitN r u) {e : Ld} (he : e ∈ es) : (∃ r ∈ allP e.2.2.1 e.2.2.2, fitN r u) ↔ fires (kOf u) e = true := by
  unfold fires
  rw [Bool.or_eq_true, beq_iff_eq, beq_iff_eq]
  have hfull : ∃ r ∈ allP 0 1114111, fitN r u := by
    rcases hk d hd with ⟨h1, h2⟩ | ⟨h1, h2, h3⟩
    · rw [h1, h2] at hu; exact hu
    · rw [h3] at hu
      rw [(one_fits h1 h2).1 hu]
      exact full_one h1 h2
  rcases hk e he with ⟨h1, h2⟩ | ⟨h1, h2, h3⟩
  · rw [h1, h2]
    exact ⟨fun _ => .inl rfl, fun _ => hfull⟩
  · rw [h3, one_fits h1 h2]
    constructor
    · rintro rfl
      refine .inr ?_
      show e.2.2.1 = ((e.2.2.1.toNat : Nat) : Int)
      omega
    · rintro (h | h)
      · omega
      · match u, hfull, h with
        | [b], _, h =>
          have h : e.2.2.1 = (b : Int) := h
          rw [show e.2.2.1.toNat = b by omega]
        | [], _, h =>
          have h : e.2.2.1 = ((1000 : Nat) : Int) := h
          omega
        | _ :: _ :: _, _, h =>
          have h : e.2.2.1 = ((1000 : Nat) : Int) := h
          omega
/-! ### How few sets -/
section
variable {l : List Lst} {es : List Ld} {cl : Nat → Nat → Bool} {Cs : List (List Nat)} {Ks : List Nat}
/-- Sets of the first states that stay among few. -/
structure FewC (l : List Lst) (es : List Ld) (cl : Nat → Nat → Bool) (Cs : List (List Nat)) (Ks : List Nat) : Prop where
  ok : OkE l.length es
  emp : ∀ x t y, edgeL l x t y → t = []
  inl : InE (edgeL l) l.length
  kind : ∀ e ∈ es, KindE e
  clo : ∀ z y, z < l.length → (Way (orE (edgeL l) (esE es)) z [] y ↔ cl z y = true)
  pos : 0 < l.length
  first : ∃ S ∈ Cs, ∀ y, y < l.length → (y ∈ S ↔ cl 0 y = true)
  none : [] ∈ Cs
  keys : ∀ k : Nat, ∃ k' ∈ Ks, ∀ e ∈ es, fires k e = fires k' e
  step : ∀ S ∈ Cs, ∀ k ∈ Ks, ∃ T ∈ Cs, ∀ y, y < l.length → (y ∈ T ↔ ∃ e ∈ es, e.1 ∈ S ∧ fires k e = true ∧ cl e.2.1 y = true)
theorem FewC.at_ (h : FewC l es cl Cs Ks) : ∀ (m : Nat) (t : List Nat), t.length ≤ m → ∃ S ∈ Cs, ∀ y, y < l.length → (Way (orE (edgeL l) (esE es)) 0 t y ↔ y ∈ S) := by
  intro m
  induction m with
  | zero =>
    intro t ht
    obtain rfl : t = [] := List.length_eq_zero_iff.1 (by omega)
    obtain ⟨S, hS, h1⟩ := h.first
    exact ⟨S, hS, fun y hy => by rw [h.clo 0 y h.pos, h1 y hy]⟩
  | succ m ih =>
    intro t ht
    by_cases h0 : t = []
    · subst h0
      exact ih [] (Nat.zero_le _)
    by_cases hex : ∃ (t' u : List Nat) (d : Ld), t = t' ++ u ∧ d ∈ es ∧ ∃ r ∈ allP d.2.2.1 d.2.2.2, fitN r u
    · obtain ⟨t', u, d, rfl, hd, hu⟩ := hex
      have hun : u ≠ [] := by
        obtain ⟨r, hr, hf⟩ := hu
        exact seg_ne (fit_seg hr hf)
      have hul := List.length_pos_iff.2 hun
      rw [List.length_append] at ht
      obtain ⟨S, hS, h1⟩ := ih t' (by omega)
      obtain ⟨k', hk', hkk⟩ := h.keys (kOf u)
      obtain ⟨T, hT, h2⟩ := h.step S hS k' hk'
      refine ⟨T, hT, fun y hy => ?_⟩
      rw [h2 y hy]
      constructor
      · intro hw
        obtain ⟨t'', v, e, h3, h4, h5, h6, h7⟩ := way_last h.emp hw h0
        have hs1 : SSh u := by obtain ⟨r, hr, hf⟩ := hu; exact fit_ssh hr hf
        have hs2 : SSh v := by obtain ⟨r, hr, hf⟩ := h5; exact fit_ssh hr hf
        obtain ⟨rfl, rfl⟩ := ssh_one hs1 hs2 h3
        obtain ⟨k1, k2⟩ := h.ok e h4
        refine ⟨e, h4, (h1 _ k1).1 h6, ?_, (h.clo _ _ k2).1 h7⟩
        rw [← hkk e h4]
        exact (fires_iff h.kind hd hu h4).1 h5
      · rintro ⟨e, h4, h5, h6, h7⟩
        obtain ⟨k1, k2⟩ := h.ok e h4
        rw [← hkk e h4] at h6
        have h8 := (fires_iff h.kind hd hu h4).2 h6
        have := ((h1 _ k1).2 h5).trans (.cons (t := u) (.inr ⟨e, h4, rfl, rfl, h8⟩) ((h.clo _ _ k2).2 h7))
        rwa [List.append_nil] at this
    · refine ⟨[], h.none, fun y _ => ⟨fun hw => ?_, fun h => absurd h List.not_mem_nil⟩⟩
      obtain ⟨t', u, e, h3, h4, h5, _⟩ := way_last h.emp hw h0
      exact absurd ⟨t', u, e, h3, h4, h5⟩ hex
open Classical in
noncomputable def candF (N n : Nat) (es : List Ld) (Cs : List (List Nat)) : List (List Int) :=
  Cs.map (fun S => setL N fun y => y ∈ S) ++ Cs.flatMap fun S => (candsU (allP 0 1114111)).map fun m => setL N fun y => ∃ u, m = some u ∧ ∃ (k : Nat) (e : Ld), es[k]? = some e ∧ e.1 ∈ S ∧ (e.2.2.1 = 0 ∧ e.2.2.2 = 1114111) ∧ midsP (offM n es k) (allP 0 1114111) u y
theorem candF_len (N n : Nat) (es : List Ld) (Cs : List (List Nat)) : (candF N n es Cs).length ≤ Cs.length * 601 := by
  unfold candF
  have h := cands_full
  rw [List.length_append, List.length_map, flat_const _ (candsU (allP 0 1114111)).length fun x => List.length_map ..]
  have := Nat.mul_le_mul_left Cs.length h
  omega
/-- How many sets are met. -/
theorem FewC.few (h : FewC l es cl Cs Ks) (hc : ∀ S ∈ Cs, ∀ y ∈ S, y < l.length) (f : Nat) : ((subW (leadsL l es)).run f 0 [setL (leadsL l es).length (Clo (leadsL l es) fun x => x = 0)]).length ≤ Cs.length * 601 := by
  obtain ⟨N, hN⟩ : ∃ N, (leadsL l es).length = N := ⟨_, rfl⟩
  refine Nat.le_trans (met_few (candF N l.length es Cs) (fun t => ?_) f) (candF_len ..)
  rw [hN]
  have hnoX : ∀ {x y : Nat} {t : List Nat}, Way (orE (edgeL (leadsL l es)) noE) x t y ↔ Way (edgeL (leadsL l es)) x t y := noE_way
  have hb : ∀ y, y < l.length → (Way (edgeL (leadsL l es)) 0 t y ↔ Way (orE (edgeL l) (esE es)) 0 t y) := fun y hy => by
    rw [← hnoX, leads_way es l noE h.ok h.inl (noE_in _) h.pos hy, orE_no]
  have hm : ∀ y, l.length ≤ y → (Way (edgeL (leadsL l es)) 0 t y ↔ ∃ (k : Nat) (e : Ld) (t' u : List Nat), es[k]? = some e ∧ t = t' ++ u ∧ Way (orE (edgeL l) (esE es)) 0 t' e.1 ∧ midsP (offM l.length es k) (allP e.2.2.1 e.2.2.2) u y) := fun y hy => by
    rw [← hnoX, leads_mid es l noE h.ok h.inl (noE_in _) h.pos hy]
    constructor
    · rintro ⟨k, e, t', u, h1, h2, h3, h4⟩
      exact ⟨k, e, t', u, h1, h2, orE_no.1 h3, h4⟩
    · rintro ⟨k, e, t', u, h1, h2, h3, h4⟩
      exact ⟨k, e, t', u, h1, h2, orE_no.2 h3, h4⟩
  have hfull : ∀ {k : Nat} {e : Ld} {u : List Nat} {y : Nat}, es[k]? = some e → midsP (offM l.length es k) (allP e.2.2.1 e.2.2.2) u y → e.2.2.1 = 0 ∧ e.2.2.2 = 1114111 := fun h0 h1 => by
    rcases h.kind _ (List.mem_of_getElem? h0) with hk | ⟨k1, k2, k3⟩
    · exact hk
    · rw [k3] at h1
      exact absurd h1 (one_mid k1 k2)
  by_cases hmid : ∃ (k : Nat) (e : Ld) (t' u : List Nat) (y : Nat), es[k]? = some e ∧ t = t' ++ u ∧ Way (orE (edgeL l) (esE es)) 0 t' e.1 ∧ midsP (offM l.length es k) (allP e.2.2.1 e.2.2.2) u y
  · obtain ⟨k0, e0, t', u, y0, h1, rfl, h2, h3⟩ := hmid
    obtain ⟨g1, g2⟩ := hfull h1 h3
    rw [g1, g2] at h3
    have hsu : SSh u := mid_ssh (fun _ h => h) h3
    have hpu : Prt u := mid_prt (fun _ h => h) h3
    have hu3 := (mids_shape (all_rowsU 0 1114111) (fun _ h => h) h3).2
    have hu0 := List.length_pos_iff.2 (prt_ne hpu)
    obtain ⟨S, hS, hSw⟩ := h.at_ t'.length t' (Nat.le_refl _)
    have hR : RowsU (allP 0 1114111) := all_rowsU _ _
    unfold candF
    refine List.mem_append_right _ (List.mem_flatMap.2 ⟨S, hS, List.mem_map.2 ⟨some (repU (cutsU (allP 0 1114111) u.length) u), ?_, setL_congr fun y hy => ?_⟩⟩)
    · unfold candsU
      refine List.mem_cons_of_mem _ (List.mem_map_of_mem ?_)
      have hm := prodL_mem (cs := cutsU (allP 0 1114111) u.length) (u := u) (cutsU_len _ u.length) fun c hc => by
        unfold cutsU at hc
        obtain ⟨k, _, rfl⟩ := List.mem_map.1 hc
        exact List.mem_cons_self ..
      have h3 : u.length = 1 ∨ u.length = 2 ∨ u.length = 3 := by omega
      rw [List.mem_append, List.mem_append]
      rcases h3 with h3 | h3 | h3 <;> rw [h3] at hm ⊢
      · exact .inl (.inl hm)
      · exact .inl (.inr hm)
      · exact .inr hm
    · by_cases hyn : y < l.length
      · rw [hb y hyn]
        constructor
        · rintro ⟨_, _, k, e, hk, _, _, hp⟩
          have h5 := (midsP_in hp).1
          have h6 : l.length ≤ offM l.length es k := offM_ge
          omega
        · intro hw
          exfalso
          obtain ⟨t'', v, e, h4, h5, h6, _⟩ := way_last h.emp hw (fun e => prt_ne hpu (List.append_eq_nil_iff.1 e).2)
          obtain ⟨r, hr, hf⟩ := h6
          obtain ⟨_, rfl⟩ := ssh_one hsu (fit_ssh hr hf) h4
          exact seg_prt (a := []) (fit_seg hr hf) hpu (List.append_nil _)
      · rw [hm y (by omega)]
        constructor
        · rintro ⟨v, hv, k, e, hk, hes, ⟨f1, f2⟩, hp⟩
          injection hv with hv
          rw [← hv] at hp
          obtain ⟨k1, _⟩ := h.ok e (List.mem_of_getElem? hk)
          refine ⟨k, e, t', u, hk, rfl, (hSw _ k1).2 hes, ?_⟩
          rw [f1, f2]
          exact (mids_rep hR.ok fun _ h => h).2 hp
        · rintro ⟨k, e, t'', v, hk, h4, h5, h6⟩
          obtain ⟨f1, f2⟩ := hfull hk h6
          rw [f1, f2] at h6
          obtain ⟨rfl, rfl⟩ := ssh_one hsu (mid_ssh (fun _ h => h) h6) h4
          obtain ⟨k1, _⟩ := h.ok e (List.mem_of_getElem? hk)
          exact ⟨_, rfl, k, e, hk, (hSw _ k1).1 h5, ⟨f1, f2⟩, (mids_rep hR.ok fun _ h => h).1 h6⟩
  · obtain ⟨S, hS, hSw⟩ := h.at_ t.length t (Nat.le_refl _)
    unfold candF
    refine List.mem_append_left _ (List.mem_map.2 ⟨S, hS, setL_congr fun y hy => ?_⟩)
    by_cases hyn : y < l.length
    · rw [hb y hyn, hSw y hyn]
    · rw [hm y (by omega)]
      constructor
      · exact fun h1 => absurd (hc S hS y h1) hyn
      · rintro ⟨k, e, t', u, h1, h2, h3, h4⟩
        exact absurd ⟨k, e, t', u, y, h1, h2, h3, h4⟩ hmid
end
end Go.Proofs.YtclahhkcbkpofaaDoor
/- A word with edits as an automaton: its states and its ranges (plain Lean). -/
namespace Go.Proofs.YtclahhkcbkpofaaDoor
open Sp
/-- The j-th state: of the place j / (E + 1), with j % (E + 1) edits. -/
def fuzSt (n E X j : Nat) : Lst := ⟨decide (j / (E + 1) = n), [], if j % (E + 1) < E ∧ X ≤ j / (E + 1) ∧ j / (E + 1) < n then [((j + E + 2 : Nat) : Int)] else []⟩
/-- The states when so many are done. -/
def fuzL (n E X cur : Nat) : List Lst := (List.range ((n + 1) * (E + 1))).map fun j => if j < cur then fuzSt n E X j else ⟨false, [], []⟩
def edA (c : Option Int) (a b : Nat) : List Ld := match c with
  | some c => [(a, b, c, c)]
  | none => []
def edB (c : Option Int) (a b : Nat) : List Ld := match c with
  | some _ => [(a, b, 0, 1114111)]
  | none => []
theorem edA_len (c : Option Int) (a b : Nat) : (edA c a b).length ≤ 1 := by cases c <;> simp [edA]
theorem edB_len (c : Option Int) (a b : Nat) : (edB c a b).length ≤ 1 := by cases c <;> simp [edB]
/-- The ranges that lead from a state. -/
def edAt (f : List Int) (E X j : Nat) : List Ld := edA f[j / (E + 1)]? j (j + E + 1) ++ (if j % (E + 1) = E ∨ j / (E + 1) < X then [] else (j, j + 1, 0, 1114111) :: edB f[j / (E + 1)]? j (j + E + 2))
def fuzE (f : List Int) (E X cur : Nat) : List Ld := (List.range cur).flatMap (edAt f E X)
theorem fuzE_step (f : List Int) (E X cur : Nat) : fuzE f E X (cur + 1) = fuzE f E X cur ++ edAt f E X cur := by
  unfold fuzE
  rw [List.range_succ, List.flatMap_append]
  simp
theorem div_at {i k E : Nat} (hk : k ≤ E) : (i * (E + 1) + k) / (E + 1) = i := by
  rw [Nat.mul_comm, Nat.mul_add_div (by omega), Nat.div_eq_of_lt (by omega), Nat.add_zero]
theorem mod_at {i k E : Nat} (hk : k ≤ E) : (i * (E + 1) + k) % (E + 1) = k := by
  rw [Nat.mul_comm, Nat.mul_add_mod, Nat.mod_eq_of_lt (by omega)]
theorem fuzL_len (n E X cur : Nat) : (fuzL n E X cur).length = (n + 1) * (E + 1) := by
  unfold fuzL
  rw [List.length_map, List.length_range]
theorem fuzL_at {n E X cur j : Nat} (h : j < (n + 1) * (E + 1)) : (fuzL n E X cur)[j]? = some (if j < cur then fuzSt n E X j else ⟨false, [], []⟩) := by
  unfold fuzL
  rw [List.getElem?_map, List.getElem?_range h]
  rfl
theorem fuzL_zero (n E X : Nat) : fuzL n E X 0 = List.replicate ((n + 1) * (E + 1)) ⟨false, [], []⟩ := by
  unfold fuzL
  apply List.ext_getElem?
  intro j
  rw [List.getElem?_map, List.getElem?_replicate]
  by_cases h : j < (n + 1) * (E + 1)
  · rw [List.getElem?_range h, if_pos h]; rfl
  · rw [List.getElem?_eq_none (by simp; omega), if_neg h]; rfl
theorem fuzL_step {n E X cur : Nat} : (fuzL n E X cur).set cur (fuzSt n E X cur) = fuzL n E X (cur + 1) := by
  apply List.ext_getElem?
  intro j
  by_cases h : j < (n + 1) * (E + 1)
  · rw [fuzL_at h]
    by_cases e : cur = j
    · subst e
      rw [List.getElem?_set_self (by rw [fuzL_len]; exact h), if_pos (by omega)]
    · rw [List.getElem?_set_ne e, fuzL_at h]
      by_cases hj : j < cur
      · rw [if_pos hj, if_pos (by omega)]
      · rw [if_neg hj, if_neg (by omega)]
  · rw [List.getElem?_eq_none (by rw [List.length_set, fuzL_len]; omega), List.getElem?_eq_none (by rw [fuzL_len]; omega)]
/-- The bounds of places. -/
theorem at_lt {n E i k : Nat} (hi : i ≤ n) (hk : k ≤ E) : i * (E + 1) + k < (n + 1) * (E + 1) := by
  have : i * (E + 1) ≤ n * (E + 1) := Nat.mul_le_mul_right _ hi
  rw [Nat.add_mul, Nat.one_mul]
  omega
theorem at_lt2 {n E i k : Nat} (hi : i < n) (hk : k ≤ E) : i * (E + 1) + k + E + 1 < (n + 1) * (E + 1) := by
  have := at_lt (n := n) (E := E) (i := i + 1) (k := k) hi hk
  rw [Nat.add_mul, Nat.one_mul] at this
  omega
theorem fuzSt_at {n E X i k : Nat} (hk : k ≤ E) : fuzSt n E X (i * (E + 1) + k) = ⟨decide (i = n), [], if k < E ∧ X ≤ i ∧ i < n then [((i * (E + 1) + k + E + 2 : Nat) : Int)] else []⟩ := by
  unfold fuzSt
  rw [div_at hk, mod_at hk]
theorem edAt_at {f : List Int} {E X i k : Nat} (hk : k ≤ E) : edAt f E X (i * (E + 1) + k) = edA f[i]? (i * (E + 1) + k) (i * (E + 1) + k + E + 1) ++ (if k = E ∨ i < X then [] else (i * (E + 1) + k, i * (E + 1) + k + 1, 0, 1114111) :: edB f[i]? (i * (E + 1) + k) (i * (E + 1) + k + E + 2)) := by
  unfold edAt
  rw [div_at hk, mod_at hk]
theorem edAt_len (f : List Int) (E X j : Nat) : (edAt f E X j).length ≤ 3 := by
  unfold edAt
  have h1 := edA_len f[j / (E + 1)]? j (j + E + 1)
  have h2 := edB_len f[j / (E + 1)]? j (j + E + 2)
  rw [List.length_append]
  split
  · simp only [List.length_nil]; omega
  · rw [List.length_cons]; omega
theorem fuzE_len (f : List Int) (E X cur : Nat) : (fuzE f E X cur).length ≤ 3 * cur := by
  induction cur with
  | zero => simp [fuzE]
  | succ cur ih =>
    have := edAt_len f E X cur
    rw [fuzE_step, List.length_append]
    omega
end Go.Proofs.YtclahhkcbkpofaaDoor
/- strings.Builder: WriteByte at this program. -/
namespace Go.Proofs.YtclahhkcbkpofaaDoor
open Go.RowKit Go.Shelf
theorem el_u8 : Elem Tryd.prog 91 5 1 1 := Elem.mk_ Tryd.underlying91 (z := .int .u8 0) (by kernel_rfl) rfl (by omega)
set_option maxRecDepth 100000 in
set_option maxHeartbeats 4000000 in
theorem writeb_any (B b : Nat) (bs : List Value) (ch : Int) (w : World) (h : Lib.IsBuilder 93 5 B b bs w) (hlen : bs.length + 1 ≤ 1407374883553) (hBw : B ≤ w.heap.size) :
    Calls Tryd.prog 57 #[.pointer (some ⟨b, 0, none⟩), .int .u8 ch] w fun e w' => e = .returned .nilIface ∧ (Lib.IsBuilder 93 5 B b (bs ++ [.int .u8 ch]) w' ∧ Below B w w' ∧ OthersStand b w w') := by
  go_enter Tryd.func57, Tryd.ntmps57
  go_wp2_with fail
  refine (check_any B b bs _ h).mono ?_
  rintro e w1 ⟨rfl, h1, hb1, ho1⟩
  obtain ⟨hB, v, hbk, hown, hne⟩ := h1
  have c0 : w1.cell? ⟨b, 0, none⟩ = some (.pointer (some ⟨b, 0, none⟩)) := by rw [Lib.cell_of_heap hbk]; rfl
  have c1 : w1.cell? ⟨b, 1, none⟩ = some v := by rw [Lib.cell_of_heap hbk]; rfl
  have hlt : b < w1.heap.size := by
    rcases Nat.lt_or_ge b w1.heap.size with h' | h'
    · exact h'
    · simp [Array.getElem?_eq_none h'] at hbk
  have hbw1 : B ≤ w1.heap.size := Nat.le_trans hBw hb1.size
  obtain ⟨A1, cap1, rfl, _⟩ := own_shape hown
  have hkeep : ∀ w2 : World, w1.grownBy w2 (Value.slice A1 bs.length cap1).ownBlock → w2.heap[b]? = some (.cells #[.pointer (some ⟨b, 0, none⟩), .slice A1 bs.length cap1] 93 (0, 0)) := fun w2 hg => by
    rw [hg.block b hlt (fun e => hne e.symm)]
    exact hbk
  go_wp2_with (at_builtin; refine wpList_push w1 w1 _ rfl _ _ _ rfl el_u8 (.slice A1 bs.length cap1) bs.length bs rfl hown rfl (by simp) rfl (by simp [Value.oneCell']) (by unfold maxLen; omega) (by omega) hbw1 (Below.refl _ _) ?_; intro v' w2 hown' hb2' hgrow _; obtain ⟨A2, cap2, rfl, _⟩ := own_shape hown'; have hb2 := hkeep w2 hgrow; have d1 : w2.cell? ⟨b, 1, none⟩ = some (.slice A1 bs.length cap1) := (Lib.cell_of_heap hb2 1).trans rfl; have f1 : w2.frozen? ⟨b, 1, none⟩ = false := Lib.frozen_of_heap hb2 1)
  go_ret
  refine ⟨rfl, .inr ?_, ?_, ?_⟩
  · exact Lib.BuilderAt.put (T := 93) (e := 5) hB hb2 (bs' := bs ++ [.int .u8 ch]) (by simpa using hown') (by decide)
  · exact (hb1.trans hb2').setCell (p := ⟨b, 1, none⟩) hB _
  · refine ho1.trans fun k cs t f h1 h2 h3 => ?_
    rw [Below.heap_setCell _ _ _ _ h1, hgrow.block k (Array.getElem?_eq_some_iff.1 h3).1 ?_]
    · exact h3
    · intro e
      rcases hown.2 with ⟨hv, _⟩ | ⟨g, cap', cur, hv, _, hg, _⟩
      · injection hv with hv _ _
        subst hv
        cases e
      · injection hv with hv _ _
        subst hv
        simp only [Value.ownBlock, Option.some.injEq] at e
        subst e
        rw [hg] at h3
        injection h3 with h3
        injection h3 with _ h3 _
        exact h2 h3.symm
end Go.Proofs.YtclahhkcbkpofaaDoor
