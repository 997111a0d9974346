/- The automaton of sets of loose states; the bytes at which it may change (plain Lean). -/
import Derived.Test.YtclahhkcbkpofaaDoorHFz12
import Derived.Test.YtclahhkcbkpofaaDoorHFz15
namespace Go.Proofs.YtclahhkcbkpofaaDoor
open Go.RowKit
def arcsAt (l : List Lst) (z : Int) : List Arc3 := ((l[z.toNat]?).map (·.arcs)).getD []
def finAt (l : List Lst) (z : Int) : Bool := ((l[z.toNat]?).map (·.fin)).getD false
/-- Where a byte leads from a set. -/
def overP (l : List Lst) (S : List Int) (c : Nat) (x : Nat) : Prop := ∃ z ∈ S, ∃ a ∈ arcsAt l z, a.1 ≤ (c : Int) ∧ (c : Int) ≤ a.2.1 ∧ a.2.2 = (x : Int)
open Classical in
noncomputable def stepS (l : List Lst) (S : List Int) (c : Nat) : Option (List Int) := if ∃ x, overP l S c x then some (setL l.length (Clo l (overP l S c))) else none
def finS (l : List Lst) (S : List Int) : Bool := S.any (finAt l)
noncomputable def subW (l : List Lst) : Bfs (List Int) := ⟨stepS l, fun z y => decide (z = y), id⟩
theorem subW_plain (l : List Lst) : Plain (subW l) := ⟨fun _ _ => rfl, fun _ => rfl⟩
theorem stepS_congr {l : List Lst} {S : List Int} {c c' : Nat} (h : ∀ x, overP l S c x ↔ overP l S c' x) : stepS l S c = stepS l S c' := by
  have e : overP l S c = overP l S c' := funext fun x => propext (h x)
  unfold stepS
  rw [e]
/-- What a list of states says, and where bytes lead. -/
theorem stepS_list {l : List Lst} {S : List Int} {c : Nat} {T : List Int} (hT : ∀ z, z ∈ T ↔ ∃ y ∈ S, ∃ a ∈ arcsAt l y, a.1 ≤ (c : Int) ∧ (c : Int) ≤ a.2.1 ∧ a.2.2 = z) (hpos : ∀ z ∈ T, 0 ≤ z) :
    stepS l S c = if T = [] then none else some (setL l.length (Clo l fun x => ((x : Nat) : Int) ∈ T)) := by
  have e : overP l S c = fun x => ((x : Nat) : Int) ∈ T := funext fun x => propext ((hT (x : Int)).symm)
  unfold stepS
  rw [e]
  by_cases h : T = []
  · rw [if_pos h, if_neg]
    rintro ⟨x, hx⟩
    rw [h] at hx
    cases hx
  · rw [if_neg h, if_pos]
    obtain ⟨z, hz⟩ := List.exists_mem_of_ne_nil _ h
    refine ⟨z.toNat, ?_⟩
    have := hpos z hz
    show ((z.toNat : Nat) : Int) ∈ T
    rw [show ((z.toNat : Nat) : Int) = z by omega]
    exact hz
/-- Rising numbers: nothing lies between neighbours. -/
theorem lt_gap {L : List Int} (h : L.Pairwise fun x y => x < y) {k : Nat} {u v : Int} (hu : L[k]? = some u) (hv : L[k + 1]? = some v) {z : Int} (hz : z ∈ L) : z ≤ u ∨ v ≤ z := by
  obtain ⟨j, hj⟩ := List.mem_iff_getElem?.1 hz
  have hjl := (List.getElem?_eq_some_iff.1 hj)
  have hkl := (List.getElem?_eq_some_iff.1 hu)
  have hvl := (List.getElem?_eq_some_iff.1 hv)
  rcases Nat.lt_trichotomy j k with h1 | h1 | h1
  · have := List.pairwise_iff_getElem.1 h j k hjl.1 hkl.1 h1
    rw [hjl.2, hkl.2] at this
    omega
  · subst h1
    rw [hu] at hj
    injection hj with hj
    omega
  · by_cases e : j = k + 1
    · subst e
      rw [hv] at hj
      injection hj with hj
      omega
    · have := List.pairwise_iff_getElem.1 h (k + 1) j hvl.1 hjl.1 (by omega)
      rw [hjl.2, hvl.2] at this
      omega
/-- The bytes at which something may change. -/
structure CutP (l : List Lst) (S : List Int) (C : List Int) : Prop where
  lt : C.Pairwise fun x y => x < y
  in_ : ∀ x ∈ C, 0 ≤ x ∧ x ≤ 256
  zero : C[0]? = some 0
  last : C[C.length - 1]? = some 256
  two : 2 ≤ C.length
  arc : ∀ z ∈ S, ∀ a ∈ arcsAt l z, a.1 ∈ C ∧ a.2.1 + 1 ∈ C
theorem cut_first {C : List Int} (h : C.Pairwise fun x y => x < y) (hin : ∀ x ∈ C, 0 ≤ x ∧ x ≤ 256) (h0 : (0 : Int) ∈ C) : C[0]? = some 0 := by
  cases C with
  | nil => cases h0
  | cons x r =>
    rcases List.mem_cons.1 h0 with e | hr
    · rw [← e]; rfl
    · have := (List.pairwise_cons.1 h).1 0 hr
      have := hin x (List.mem_cons_self ..)
      omega
theorem cut_last {C : List Int} (h : C.Pairwise fun x y => x < y) (hin : ∀ x ∈ C, 0 ≤ x ∧ x ≤ 256) (h0 : (256 : Int) ∈ C) : C[C.length - 1]? = some 256 := by
  obtain ⟨j, hj⟩ := List.mem_iff_getElem?.1 h0
  obtain ⟨h1, h2⟩ := List.getElem?_eq_some_iff.1 hj
  by_cases e : j = C.length - 1
  · rw [← e]; exact hj
  · have h3 := List.pairwise_iff_getElem.1 h j (C.length - 1) h1 (by omega) (by omega)
    have h4 := hin _ (List.getElem_mem (show C.length - 1 < C.length by omega))
    rw [h2] at h3
    omega
theorem cutP_of {l : List Lst} {S : List Int} {Ls : List Ash} (hg : LGood l) (hLs : Ls.map (·.l) = S.map (arcsAt l)) : CutP l S (Lib.compact (sorted (cutL Ls))) := by
  obtain ⟨h1, h2⟩ := compact_sorted (sorted_le (cutL Ls))
  have hmem : ∀ x, x ∈ Lib.compact (sorted (cutL Ls)) ↔ x ∈ cutL Ls := fun x => (h2 x).trans (sorted_mem _ x)
  have hcut : ∀ x, x ∈ cutL Ls ↔ x = 0 ∨ x = 256 ∨ ∃ z ∈ S, ∃ a ∈ arcsAt l z, x = a.1 ∨ x = a.2.1 + 1 := fun x => by
    unfold cutL
    rw [List.mem_append, List.mem_flatMap]
    have e : Ls.flatMap (·.l) = (S.map (arcsAt l)).flatten := by rw [← hLs, List.flatMap_def]
    rw [e]
    constructor
    · rintro (h | ⟨a, ha, hx⟩)
      · simp at h
        rcases h with h | h
        · exact .inl h
        · exact .inr (.inl h)
      · rw [List.mem_flatten] at ha
        obtain ⟨L, hL, haL⟩ := ha
        obtain ⟨z, hz, rfl⟩ := List.mem_map.1 hL
        simp [cutA] at hx
        exact .inr (.inr ⟨z, hz, a, haL, hx⟩)
    · rintro (h | h | ⟨z, hz, a, ha, hx⟩)
      · left; simp [h]
      · left; simp [h]
      · right
        refine ⟨a, ?_, by simpa [cutA] using hx⟩
        rw [List.mem_flatten]
        exact ⟨_, List.mem_map_of_mem hz, ha⟩
  have hok : ∀ z, ∀ a ∈ arcsAt l z, 0 ≤ a.1 ∧ a.1 ≤ a.2.1 ∧ a.2.1 ≤ 255 := fun z a ha => by
    unfold arcsAt at ha
    cases hz : l[z.toNat]? with
    | none => rw [hz] at ha; cases ha
    | some s =>
      rw [hz] at ha
      have := hg.arc s (List.mem_of_getElem? hz) a ha
      exact ⟨this.1, this.2.1, this.2.2.1⟩
  have hin : ∀ x ∈ Lib.compact (sorted (cutL Ls)), 0 ≤ x ∧ x ≤ 256 := fun x hx => by
    rcases (hcut x).1 ((hmem x).1 hx) with h | h | ⟨z, _, a, ha, h⟩
    · omega
    · omega
    · have := hok z a ha
      rcases h with h | h <;> omega
  have h0 : (0 : Int) ∈ Lib.compact (sorted (cutL Ls)) := (hmem 0).2 ((hcut 0).2 (.inl rfl))
  have h256 : (256 : Int) ∈ Lib.compact (sorted (cutL Ls)) := (hmem 256).2 ((hcut 256).2 (.inr (.inl rfl)))
  have hz := cut_first h1 hin h0
  have hl := cut_last h1 hin h256
  refine ⟨h1, hin, hz, hl, ?_, fun z hz a ha => ⟨(hmem _).2 ((hcut _).2 (.inr (.inr ⟨z, hz, a, ha, .inl rfl⟩))), (hmem _).2 ((hcut _).2 (.inr (.inr ⟨z, hz, a, ha, .inr rfl⟩)))⟩⟩
  apply Classical.byContradiction
  intro hn
  have : (Lib.compact (sorted (cutL Ls))).length - 1 = 0 := by omega
  rw [this, hz] at hl
  injection hl with hl
  exact absurd hl (by decide)
/-- Between two cuts bytes lead to the same. -/
theorem CutP.same {l : List Lst} {S C : List Int} (h : CutP l S C) {k u v : Nat} (hu : C[k]? = some ((u : Nat) : Int)) (hv : C[k + 1]? = some ((v : Nat) : Int)) {c : Nat} (h1 : u ≤ c) (h2 : c < v) : stepS l S c = stepS l S u := by
  refine stepS_congr fun x => ?_
  unfold overP
  constructor
  · rintro ⟨z, hz, a, ha, a1, a2, a3⟩
    obtain ⟨b1, b2⟩ := h.arc z hz a ha
    have c1 := lt_gap h.lt hu hv b1
    have c2 := lt_gap h.lt hu hv b2
    exact ⟨z, hz, a, ha, by omega, by omega, a3⟩
  · rintro ⟨z, hz, a, ha, a1, a2, a3⟩
    obtain ⟨b1, b2⟩ := h.arc z hz a ha
    have c1 := lt_gap h.lt hu hv b1
    have c2 := lt_gap h.lt hu hv b2
    exact ⟨z, hz, a, ha, by omega, by omega, a3⟩
theorem run_head {σ : Type} (W : Bfs σ) (x0 : σ) : ∀ f, (W.run f 0 [x0])[0]? = some x0
  | 0 => rfl
  | f + 1 => by
    have ih := run_head W x0 f
    rw [W.run_succ]
    split
    · rename_i x _
      obtain ⟨more, hm⟩ := W.row_pre x (W.run f 0 [x0]) 256
      have hl := (List.getElem?_eq_some_iff.1 ih).1
      rw [hm, List.getElem?_append_left hl]
      exact ih
    · exact ih
theorem out_good {σ : Type} (W : Bfs σ) (fin : σ → Bool) {met : List σ} (h0 : met ≠ []) (hl : met.length ≤ 20000) : Good (W.out fin met) := by
  have hlen : (W.out fin met).length = met.length := by unfold Bfs.out; rw [List.length_map]
  refine ⟨fun e => h0 (List.map_eq_nil_iff.1 e), by rw [hlen]; exact hl, fun s hs => ?_, fun s hs a ha => ?_⟩
  · obtain ⟨x, _, rfl⟩ := List.mem_map.1 hs
    exact (runs_asc _ 256).1
  · obtain ⟨x, _, rfl⟩ := List.mem_map.1 hs
    obtain ⟨c, k, _, hg, hk⟩ := runs_mem _ 256 a ha
    obtain ⟨y, _, hf⟩ := Option.bind_eq_some_iff.1 hg
    obtain ⟨z, hz, _⟩ := findI_some hf
    have := (List.getElem?_eq_some_iff.1 hz).1
    rw [hlen]
    omega
theorem MadeP.leq {W : Bfs (List Int)} {fin fin0 : List Int → Bool} {x0 : List Int} {i : Nat} {met : List (List Int)} {ds : List St} (hW : Plain W) (h : MadeP W fin fin0 x0 i met ds) (hi : i = met.length) : Leq (auOf ds) 0 ⟨fin, W.step⟩ x0 := by
  obtain ⟨e, hm, _⟩ := h.last hW hi
  rw [e]
  intro s
  refine out_leq W fin (fun z y hzy => ?_) hm s 0 x0 ?_
  · rw [hW.eqv, decide_eq_true_eq] at hzy
    rw [hzy]
    exact Leq.refl _ _
  · rw [h.run]
    exact run_head W x0 i
theorem MadeP.good {W : Bfs (List Int)} {fin fin0 : List Int → Bool} {x0 : List Int} {i : Nat} {met : List (List Int)} {ds : List St} (hW : Plain W) (h : MadeP W fin fin0 x0 i met ds) (hi : i = met.length) (hl : met.length ≤ 20000) : Good ds := by
  obtain ⟨e, _, _⟩ := h.last hW hi
  rw [e]
  refine out_good W fin (fun e => ?_) hl
  have := run_head W x0 i
  rw [← h.run, e] at this
  cases this
end Go.Proofs.YtclahhkcbkpofaaDoor
/- What a loose automaton takes, by sets of bools (plain Lean). -/
namespace Go.Proofs.YtclahhkcbkpofaaDoor
open Classical in
noncomputable def charL (n : Nat) (P : Nat → Prop) : List Bool := (List.range n).map fun x => decide (P x)
theorem charL_len (n : Nat) (P : Nat → Prop) : (charL n P).length = n := by unfold charL; rw [List.length_map, List.length_range]
open Classical in
theorem charL_get {n : Nat} {P : Nat → Prop} {x : Nat} : (charL n P)[x]? = some true ↔ x < n ∧ P x := by
  unfold charL
  rw [List.getElem?_map]
  by_cases h : x < n
  · rw [List.getElem?_range h]
    show some (decide (P x)) = some true ↔ _
    simp [h]
  · rw [List.getElem?_eq_none (by rw [List.length_range]; omega)]
    simp [h]
/-- Lists of bools that say the same are the same. -/
theorem bools_ext {A B : List Bool} (hl : A.length = B.length) (h : ∀ x : Nat, A[x]? = some true ↔ B[x]? = some true) : A = B := by
  apply List.ext_getElem?
  intro x
  by_cases hx : x < A.length
  · have h1 := h x
    rw [List.getElem?_eq_getElem hx, List.getElem?_eq_getElem (by omega)] at h1 ⊢
    congr 1
    cases ha : A[x] <;> cases hb : B[x] <;> rw [ha, hb] at h1 <;> simp at h1 <;> rfl
  · rw [List.getElem?_eq_none (by omega), List.getElem?_eq_none (by omega)]
/-- In the midst of spreading. -/
structure SpP (l : List Lst) (B0 B : List Bool) : Prop where
  len : B.length = l.length
  base : ∀ x : Nat, B0[x]? = some true → B[x]? = some true
  clo : ∀ x : Nat, B[x]? = some true → Clo l (fun y => B0[y]? = some true) x
theorem SpP.start {l : List Lst} {B : List Bool} (h : B.length = l.length) : SpP l B B := ⟨h, fun _ h => h, fun _ h => .base h⟩
theorem SpP.set {l : List Lst} {B0 B : List Bool} (h : SpP l B0 B) {i x : Nat} {s : Lst} (hi : B[i]? = some true) (hs : l[i]? = some s) (hx : ((x : Nat) : Int) ∈ s.free) : SpP l B0 (B.set x true) := by
  refine ⟨by rw [List.length_set]; exact h.len, fun y hy => ?_, fun y hy => ?_⟩
  · rw [List.getElem?_set]
    split
    · rename_i e
      subst e
      have := (List.getElem?_eq_some_iff.1 (h.base x hy)).1
      rw [if_pos this]
    · exact h.base y hy
  · rw [List.getElem?_set] at hy
    split at hy
    · rename_i e
      subst e
      exact .step (h.clo i hi) hs hx
    · exact h.clo y hy
/-- Closed as far as one has come. -/
def ClsTo (l : List Lst) (B : List Bool) (i k : Nat) : Prop := (∀ (y : Nat) s, y < i → B[y]? = some true → l[y]? = some s → ∀ t ∈ s.free, B[t.toNat]? = some true) ∧ ∀ s, l[i]? = some s → B[i]? = some true → ∀ t ∈ s.free.take k, B[t.toNat]? = some true
theorem ClsTo.zero (l : List Lst) (B : List Bool) : ClsTo l B 0 0 := ⟨fun y s h => absurd h (by omega), fun s _ _ t ht => by simp at ht⟩
theorem ClsTo.next {l : List Lst} {B : List Bool} {i k : Nat} (h : ClsTo l B i k) (he : ∀ s, l[i]? = some s → B[i]? = some true → s.free.length ≤ k) : ClsTo l B (i + 1) 0 := by
  refine ⟨fun y s hy hb hs t ht => ?_, fun s _ _ t ht => by simp at ht⟩
  by_cases e : y < i
  · exact h.1 y s e hb hs t ht
  · obtain rfl : y = i := by omega
    exact h.2 s hs hb t (by rw [List.take_of_length_le (he s hs hb)]; exact ht)
theorem ClsTo.one {l : List Lst} {B : List Bool} {i k : Nat} {s : Lst} {t : Int} (h : ClsTo l B i k) (hs : l[i]? = some s) (ht : s.free[k]? = some t) (hb : B[t.toNat]? = some true) : ClsTo l B i (k + 1) := by
  refine ⟨h.1, fun s' hs' hi u hu => ?_⟩
  rw [hs] at hs'
  injection hs' with hs'
  subst hs'
  rw [List.take_add_one, ht] at hu
  rcases List.mem_append.1 hu with hu | hu
  · exact h.2 s hs hi u hu
  · simp at hu
    rw [hu]
    exact hb
theorem SpP.done {l : List Lst} {B0 B : List Bool} (h : SpP l B0 B) (hc : ClsTo l B l.length 0) : B = charL l.length (Clo l fun y => B0[y]? = some true) := by
  refine bools_ext (by rw [charL_len]; exact h.len) fun x => ?_
  rw [charL_get]
  constructor
  · intro hx
    have := (List.getElem?_eq_some_iff.1 hx).1
    rw [h.len] at this
    exact ⟨this, h.clo x hx⟩
  · rintro ⟨_, hx⟩
    induction hx with
    | base h1 => exact h.base _ h1
    | @step y x s hy hs hx ih =>
      have hyl := (List.getElem?_eq_some_iff.1 hs).1
      have := hc.1 y s hyl (ih hyl) hs _ hx
      rwa [Int.toNat_natCast] at this
/-! ### Over, and Takes -/
/-- Where a byte leads from a set. -/
def ovP (l : List Lst) (P : Nat → Prop) (c : Nat) (x : Nat) : Prop := ∃ (z : Nat) (s : Lst), P z ∧ l[z]? = some s ∧ ∃ a ∈ s.arcs, a.1 ≤ (c : Int) ∧ (c : Int) ≤ a.2.1 ∧ a.2.2 = (x : Int)
def runP (l : List Lst) : (Nat → Prop) → List Nat → Nat → Prop
  | P, [] => P
  | P, c :: r => runP l (Clo l (ovP l P c)) r
open Classical in
noncomputable def endB (l : List Lst) (P : Nat → Prop) : Bool := decide (∃ (z : Nat) (s : Lst), l[z]? = some s ∧ s.fin = true ∧ P z)
theorem overP_set {l : List Lst} {P : Nat → Prop} {c : Nat} : overP l (setL l.length P) c = ovP l P c := by
  funext x
  apply propext
  unfold overP ovP
  constructor
  · rintro ⟨z, hz, a, ha, h⟩
    obtain ⟨y, rfl, hy, hp⟩ := setL_mem.1 hz
    unfold arcsAt at ha
    rw [Int.toNat_natCast, List.getElem?_eq_getElem hy] at ha
    exact ⟨y, l[y], hp, List.getElem?_eq_getElem hy, a, ha, h⟩
  · rintro ⟨z, s, hp, hs, a, ha, h⟩
    refine ⟨(z : Int), setL_mem.2 ⟨z, rfl, (List.getElem?_eq_some_iff.1 hs).1, hp⟩, a, ?_, h⟩
    unfold arcsAt
    rw [Int.toNat_natCast, hs]
    exact ha
theorem clo_none {l : List Lst} {P : Nat → Prop} (h : ∀ x, ¬ P x) : ∀ x, ¬ Clo l P x := fun x hx => by
  induction hx with
  | base h1 => exact h _ h1
  | step _ _ _ ih => exact ih
open Classical in
theorem run_none {l : List Lst} : ∀ (r : List Nat) {P : Nat → Prop}, (∀ x, ¬ P x) → endB l (runP l P r) = false
  | [], P, h => by
    unfold endB
    exact decide_eq_false fun ⟨z, s, _, _, hz⟩ => h z hz
  | c :: r, P, h => run_none r (clo_none fun x ⟨z, s, hz, _⟩ => h z hz)
open Classical in
theorem finS_end {l : List Lst} {P : Nat → Prop} : finS l (setL l.length P) = endB l P := by
  rw [Bool.eq_iff_iff]
  unfold finS endB
  rw [List.any_eq_true, decide_eq_true_eq]
  constructor
  · rintro ⟨z, hz, hf⟩
    obtain ⟨y, rfl, hy, hp⟩ := setL_mem.1 hz
    unfold finAt at hf
    rw [Int.toNat_natCast, List.getElem?_eq_getElem hy] at hf
    exact ⟨y, l[y], List.getElem?_eq_getElem hy, hf, hp⟩
  · rintro ⟨z, s, hs, hf, hp⟩
    refine ⟨(z : Int), setL_mem.2 ⟨z, rfl, (List.getElem?_eq_some_iff.1 hs).1, hp⟩, ?_⟩
    unfold finAt
    rw [Int.toNat_natCast, hs]
    exact hf
/-- The automaton of sets takes what the sets say. -/
theorem acc_run (l : List Lst) : ∀ (s : List Nat) (P : Nat → Prop), (∀ c ∈ s, c < 256) → (⟨finS l, stepS l⟩ : Au (List Int)).acc (setL l.length P) s = endB l (runP l P s)
  | [], P, _ => finS_end
  | c :: r, P, h => by
    rw [Au.acc, if_pos (h c (List.mem_cons_self ..))]
    have e : (⟨finS l, stepS l⟩ : Au (List Int)).step (setL l.length P) c = stepS l (setL l.length P) c := rfl
    rw [e]
    unfold stepS
    rw [overP_set]
    by_cases hx : ∃ x, ovP l P c x
    · rw [if_pos hx]
      exact acc_run l r _ fun c hc => h c (List.mem_cons_of_mem _ hc)
    · rw [if_neg hx]
      exact (run_none r (clo_none fun x h1 => hx ⟨x, h1⟩)).symm
end Go.Proofs.YtclahhkcbkpofaaDoor
