/- The automaton of sets of loose states, the sets as lists of bools (plain Lean). -/
import Derived.Test.YtebdffabfimmkaaDoorHDfaTight14
import Derived.Test.YtebdffabfimmkaaDoorHDfaTight17
import Derived.Test.YtebdffabfimmkaaDoorHDfaTight4
namespace Go.Proofs.YtebdffabfimmkaaDoor

noncomputable def ovB (l : List Lst) (B : List Bool) (c : Nat) : List Bool := charL l.length (Clo l (ovP l (fun y => B[y]? = some true) c))
/-- Is a set empty? -/
def noneB (B : List Bool) : Bool := !B.any id
noncomputable def boolW (l : List Lst) : Bfs (List Bool) := ⟨fun B c => if noneB (ovB l B c) = true then none else some (ovB l B c), fun z y => decide (z = y), id⟩
noncomputable def finB (l : List Lst) (B : List Bool) : Bool := endB l fun y => B[y]? = some true
theorem boolW_plain (l : List Lst) : Plain (boolW l) := ⟨fun _ _ => rfl, fun _ => rfl⟩
def SetR (n : Nat) (B : List Bool) (S : List Int) : Prop := ∃ P, B = charL n P ∧ S = setL n P
theorem noneB_char {n : Nat} {P : Nat → Prop} : noneB (charL n P) = true ↔ ∀ x, x < n → ¬ P x := by
  unfold noneB
  rw [Bool.not_eq_true', List.any_eq_false]
  constructor
  · intro h x hx hp
    have h1 := h true (List.mem_of_getElem? (charL_get.2 ⟨hx, hp⟩))
    simp at h1
  · intro h b hb hbt
    obtain ⟨x, hx⟩ := List.mem_iff_getElem?.1 hb
    have hbt : b = true := by simpa using hbt
    rw [hbt] at hx
    have := charL_get.1 hx
    exact h x this.1 this.2
theorem charL_ext {n : Nat} {P Q : Nat → Prop} : charL n P = charL n Q ↔ ∀ x, x < n → (P x ↔ Q x) := by
  constructor
  · intro h x hx
    have h1 : (charL n P)[x]? = some true ↔ (charL n Q)[x]? = some true := by rw [h]
    rw [charL_get, charL_get] at h1
    simpa [hx] using h1
  · intro h
    refine bools_ext (by rw [charL_len, charL_len]) fun x => ?_
    rw [charL_get, charL_get]
    exact ⟨fun h1 => ⟨h1.1, (h x h1.1).1 h1.2⟩, fun h1 => ⟨h1.1, (h x h1.1).2 h1.2⟩⟩
theorem setL_ext {n : Nat} {P Q : Nat → Prop} : setL n P = setL n Q ↔ ∀ x, x < n → (P x ↔ Q x) := by
  constructor
  · intro h x hx
    have h1 : ((x : Nat) : Int) ∈ setL n P ↔ ((x : Nat) : Int) ∈ setL n Q := by rw [h]
    rw [setL_mem, setL_mem] at h1
    constructor
    · intro hp
      obtain ⟨y, e, _, hy⟩ := h1.1 ⟨x, rfl, hx, hp⟩
      have : x = y := by omega
      rw [this]
      exact hy
    · intro hp
      obtain ⟨y, e, _, hy⟩ := h1.2 ⟨x, rfl, hx, hp⟩
      have : x = y := by omega
      rw [this]
      exact hy
  · intro h
    unfold setL
    congr 1
    refine List.filter_congr fun x hx => ?_
    exact decide_eq_decide.2 (h x (List.mem_range.1 hx))
theorem ovP_char {l : List Lst} {P : Nat → Prop} {c : Nat} : ovP l (fun y => (charL l.length P)[y]? = some true) c = ovP l P c := by
  funext x
  apply propext
  unfold ovP
  constructor
  · rintro ⟨z, s, hz, h⟩
    exact ⟨z, s, (charL_get.1 hz).2, h⟩
  · rintro ⟨z, s, hz, hs, h⟩
    exact ⟨z, s, charL_get.2 ⟨(List.getElem?_eq_some_iff.1 hs).1, hz⟩, hs, h⟩
theorem ovB_char {l : List Lst} {P : Nat → Prop} {c : Nat} : ovB l (charL l.length P) c = charL l.length (Clo l (ovP l P c)) := by
  unfold ovB
  rw [ovP_char]
theorem finB_char {l : List Lst} {P : Nat → Prop} : finB l (charL l.length P) = finS l (setL l.length P) := by
  rw [finS_end]
  unfold finB endB
  apply decide_eq_decide.2
  constructor
  · rintro ⟨z, s, h1, h2, h3⟩
    exact ⟨z, s, h1, h2, (charL_get.1 h3).2⟩
  · rintro ⟨z, s, h1, h2, h3⟩
    exact ⟨z, s, h1, h2, charL_get.2 ⟨(List.getElem?_eq_some_iff.1 h1).1, h3⟩⟩
theorem set_alike {l : List Lst} (hg : LGood l) : Alike (SetR l.length) (boolW l) (subW l) where
  step := by
    rintro _ _ ⟨P, rfl, rfl⟩ c hc
    have e1 : (boolW l).step (charL l.length P) c = if noneB (ovB l (charL l.length P) c) = true then none else some (ovB l (charL l.length P) c) := rfl
    have e2 : (subW l).step (setL l.length P) c = stepS l (setL l.length P) c := rfl
    rw [e1, e2]
    unfold stepS
    rw [ovB_char, overP_set]
    by_cases hx : ∃ x, ovP l P c x
    · obtain ⟨x, hx'⟩ := hx
      have hlt : x < l.length := by
        obtain ⟨z, s, _, hs, a, ha, _, _, he⟩ := hx'
        have := (hg.arc s (List.mem_of_getElem? hs) a ha).2.2.2.2
        omega
      rw [if_neg (fun h => noneB_char.1 h x hlt (.base hx')), if_pos ⟨x, hx'⟩]
      exact ⟨_, rfl, rfl⟩
    · rw [if_pos (noneB_char.2 fun x _ => clo_none (fun x h1 => hx ⟨x, h1⟩) x), if_neg hx]
      trivial
  eqv := by
    rintro _ _ ⟨P, rfl, rfl⟩ _ _ ⟨Q, rfl, rfl⟩
    show decide (_ = _) = decide (_ = _)
    apply decide_eq_decide.2
    rw [charL_ext, setL_ext]
  rep := fun _ _ h => h
theorem Alike.leq {σ τ : Type} {R : σ → τ → Prop} {V : Bfs σ} {W : Bfs τ} (h : Alike R V W) {f : σ → Bool} {g : τ → Bool} (hfg : ∀ x y, R x y → f x = g y) : ∀ {x : σ} {y : τ}, R x y → Leq ⟨f, V.step⟩ x ⟨g, W.step⟩ y := by
  intro x y hxy s
  induction s generalizing x y with
  | nil => exact hfg x y hxy
  | cons c r ih =>
    rw [Au.acc, Au.acc]
    by_cases hc : c < 256
    · rw [if_pos hc, if_pos hc]
      have h1 := h.step x y hxy c hc
      show (match V.step x c with | some u => _ | none => false) = (match W.step y c with | some v => _ | none => false)
      cases hx : V.step x c with
      | none =>
        cases hy : W.step y c with
        | none => rfl
        | some v => rw [hx, hy] at h1; exact h1.elim
      | some u =>
        cases hy : W.step y c with
        | none => rw [hx, hy] at h1; exact h1.elim
        | some v =>
          rw [hx, hy] at h1
          exact ih h1
    · rw [if_neg hc, if_neg hc]
/-- The set at the start. -/
noncomputable def set0 (l : List Lst) : List Bool := charL l.length (Clo l fun x => x = 0)
theorem set0_leq {l : List Lst} (hg : LGood l) : Leq ⟨finB l, (boolW l).step⟩ (set0 l) ⟨finS l, stepS l⟩ (setL l.length (Clo l fun x => x = 0)) :=
  (set_alike hg).leq (fun x y ⟨P, h1, h2⟩ => by rw [h1, h2]; exact finB_char) ⟨_, rfl, rfl⟩
theorem set0_len {l : List Lst} (hg : LGood l) (f : Nat) : ((boolW l).run f 0 [set0 l]).length = ((subW l).run f 0 [setL l.length (Clo l fun x => x = 0)]).length :=
  ((set_alike hg).run f 0 (.cons ⟨_, rfl, rfl⟩ .nil)).len
theorem set0_start {l : List Lst} (hg : LGood l) : charL l.length (Clo l fun y => ((List.replicate l.length false).set 0 true)[y]? = some true) = set0 l := by
  unfold set0
  have e : (fun y : Nat => ((List.replicate l.length false).set 0 true)[y]? = some true) = fun x => x = 0 := by
    funext y
    apply propext
    have hl := List.length_pos_iff.2 hg.ne
    constructor
    · intro h
      by_cases hy : y = 0
      · exact hy
      · rw [List.getElem?_set_ne (by omega), List.getElem?_replicate] at h
        split at h
        · cases h
        · cases h
    · rintro rfl
      rw [List.getElem?_set_self (by rw [List.length_replicate]; exact hl)]
  rw [e]
end Go.Proofs.YtebdffabfimmkaaDoor
/- strings.Builder: WriteByte at this program. -/
namespace Go.Proofs.YtebdffabfimmkaaDoor
open Go.RowKit Go.Shelf

theorem el_u8 : Elem Tryd.prog 82 5 1 1 := Elem.mk_ Tryd.underlying82 (z := .int .u8 0) (by kernel_rfl) rfl (by omega)
set_option maxRecDepth 100000 in
set_option maxHeartbeats 4000000 in
theorem writeb_any (B b : Nat) (bs : List Value) (ch : Int) (w : World) (h : Lib.IsBuilder 84 5 B b bs w) (hlen : bs.length + 1 ≤ 1407374883553) (hBw : B ≤ w.heap.size) :
    Calls Tryd.prog 43 #[.pointer (some ⟨b, 0, none⟩), .int .u8 ch] w fun e w' => e = .returned .nilIface ∧ (Lib.IsBuilder 84 5 B b (bs ++ [.int .u8 ch]) w' ∧ Below B w w' ∧ OthersStand b w w') := by
  go_enter Tryd.func43, Tryd.ntmps43
  go_wp2_with fail
  refine (check_any B b bs _ h).mono ?_
  rintro e w1 ⟨rfl, h1, hb1, ho1⟩
  obtain ⟨hB, v, hbk, hown, hne⟩ := h1
  have c0 : w1.cell? ⟨b, 0, none⟩ = some (.pointer (some ⟨b, 0, none⟩)) := by rw [Lib.cell_of_heap hbk]; rfl
  have c1 : w1.cell? ⟨b, 1, none⟩ = some v := by rw [Lib.cell_of_heap hbk]; rfl
  have hlt : b < w1.heap.size := by
    rcases Nat.lt_or_ge b w1.heap.size with h' | h'
    · exact h'
    · simp [Array.getElem?_eq_none h'] at hbk
  have hbw1 : B ≤ w1.heap.size := Nat.le_trans hBw hb1.size
  obtain ⟨A1, cap1, rfl, _⟩ := own_shape hown
  have hkeep : ∀ w2 : World, w1.grownBy w2 (Value.slice A1 bs.length cap1).ownBlock → w2.heap[b]? = some (.cells #[.pointer (some ⟨b, 0, none⟩), .slice A1 bs.length cap1] 84 (0, 0)) := fun w2 hg => by
    rw [hg.block b hlt (fun e => hne e.symm)]
    exact hbk
  go_wp2_with (at_builtin; refine wpList_push w1 w1 _ rfl _ _ _ rfl el_u8 (.slice A1 bs.length cap1) bs.length bs rfl hown rfl (by simp) rfl (by simp [Value.oneCell']) (by unfold maxLen; omega) (by omega) hbw1 (Below.refl _ _) ?_; intro v' w2 hown' hb2' hgrow _; obtain ⟨A2, cap2, rfl, _⟩ := own_shape hown'; have hb2 := hkeep w2 hgrow; have d1 : w2.cell? ⟨b, 1, none⟩ = some (.slice A1 bs.length cap1) := (Lib.cell_of_heap hb2 1).trans rfl; have f1 : w2.frozen? ⟨b, 1, none⟩ = false := Lib.frozen_of_heap hb2 1)
  go_ret
  refine ⟨rfl, .inr ?_, ?_, ?_⟩
  · exact Lib.BuilderAt.put (T := 84) (e := 5) hB hb2 (bs' := bs ++ [.int .u8 ch]) (by simpa using hown') (by decide)
  · exact (hb1.trans hb2').setCell (p := ⟨b, 1, none⟩) hB _
  · refine ho1.trans fun k cs t f h1 h2 h3 => ?_
    rw [Below.heap_setCell _ _ _ _ h1, hgrow.block k (Array.getElem?_eq_some_iff.1 h3).1 ?_]
    · exact h3
    · intro e
      rcases hown.2 with ⟨hv, _⟩ | ⟨g, cap', cur, hv, _, hg, _⟩
      · injection hv with hv _ _
        subst hv
        cases e
      · injection hv with hv _ _
        subst hv
        simp only [Value.ownBlock, Option.some.injEq] at e
        subst e
        rw [hg] at h3
        injection h3 with h3
        injection h3 with _ h3 _
        exact h2 h3.symm
end Go.Proofs.YtebdffabfimmkaaDoor
