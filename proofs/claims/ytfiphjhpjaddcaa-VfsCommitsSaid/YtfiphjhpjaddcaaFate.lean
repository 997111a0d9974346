/- What Restart leaves, in plain words: each name as it was kept or as it is; each file's beginning, with all that was sure. -/
import Derived.Test.YtfiphjhpjaddcaaOwn
namespace Go.Proofs.Ytfiphjhpjaddcaa
open Go.RowKit Go.Maps Go.Sort

theorem keyS_inj {s t : ByteArray} (h : keyS s = keyS t) : s = t := by
  unfold keyS at h
  injection h with h
  exact tolist_inj.1 (by rw [ByteArray.toList_eq, ByteArray.toList_eq]; exact h)
section
variable {H : Type}
theorem numOf_put_same {M : DataW H} (hm : IsMap M) (s : ByteArray) (x : Int) : numOf (M.put (keyS s) (.lit (.int .i64 x))) s = x := by
  unfold numOf
  rw [atKey_put_same hm (by simp [keyS, Go.WideAt.IsKeyLit])]
  rfl
theorem numOf_put_other {M : DataW H} {s t : ByteArray} (h : s ≠ t) (d : DataW H) : numOf (M.put (keyS t) d) s = numOf M s := by
  unfold numOf
  rw [atKey_put_other (fun e => h (keyS_inj e))]
theorem has_putS_same {M : DataW H} (hm : IsMap M) (s : ByteArray) (d : DataW H) : Maps.has (M.put (keyS s) d) (keyS s) = true := has_put_same hm (by simp [keyS, Go.WideAt.IsKeyLit]) d
theorem has_putS_other {M : DataW H} {s t : ByteArray} (h : s ≠ t) (d : DataW H) : Maps.has (M.put (keyS t) d) (keyS s) = Maps.has M (keyS s) := has_put_other (fun e => h (keyS_inj e)) d
theorem mem_keysOf {M : DataW H} {s : ByteArray} (h : Maps.has M (keyS s) = true) : s ∈ keysOf M := by
  cases M <;> try cases h
  rename_i es
  rw [has_eq, List.any_eq_true] at h
  obtain ⟨p, hp, hs⟩ := h
  have := Go.WideAt.sameKey_eq hs
  unfold keysOf
  refine List.mem_map.2 ⟨s.data.toList, (List.mergeSort_perm _ _).mem_iff.2 ?_, by simp [bs]⟩
  refine List.mem_map.2 ⟨p, hp, ?_⟩
  rw [this]
  rfl
/-- A map whose keys are keys. -/
def Keyed' (M : DataW H) : Prop := ∃ es, M = .map es ∧ ∀ p ∈ es, Go.WideAt.IsKeyLit p.1
theorem has_merge {K N : DataW H} (hK : IsMap K) (hN : Keyed' N) (k : Lit) : Maps.has (Lib.mergeD K N) k = (Maps.has K k || Maps.has N k) := by
  obtain ⟨es, rfl, hk⟩ := hN
  exact has_foldPut k es K hK hk

/-! ### the names -/
def Inv1 (K N M : DataW H) : Prop := IsMap M ∧ ∀ s, Maps.has M (keyS s) = true → (Maps.has K (keyS s) = true ∧ numOf M s = numOf K s) ∨ (Maps.has N (keyS s) = true ∧ numOf M s = numOf N s)
theorem r1_form (K N : DataW H) (loss : Int) (st : Int × DataW H) (s : ByteArray) :
    (∃ x, (r1 K N loss st s).2 = st.2.put (keyS s) (.lit (.int .i64 x)) ∧ ((Maps.has K (keyS s) = true ∧ x = numOf K s) ∨ (Maps.has N (keyS s) = true ∧ x = numOf N s))) ∨
    ((r1 K N loss st s).2 = st.2 ∧ (Maps.has K (keyS s) = false ∨ Maps.has N (keyS s) = false)) := by
  unfold r1
  split
  · by_cases h : Maps.has K (keyS s) = true
    · rw [if_pos h]; exact .inl ⟨_, rfl, .inl ⟨h, rfl⟩⟩
    · rw [if_neg h]; exact .inr ⟨rfl, .inl (by simpa using h)⟩
  · split
    · by_cases h : Maps.has N (keyS s) = true
      · rw [if_pos h]; exact .inl ⟨_, rfl, .inr ⟨h, rfl⟩⟩
      · rw [if_neg h]; exact .inr ⟨rfl, .inr (by simpa using h)⟩
    · by_cases h : Maps.has K (keyS s) = true
      · rw [if_pos h]; exact .inl ⟨_, rfl, .inl ⟨h, rfl⟩⟩
      · rw [if_neg h]; exact .inr ⟨rfl, .inl (by simpa using h)⟩
theorem r1_inv {K N : DataW H} (loss : Int) {st : Int × DataW H} (s : ByteArray) (h : Inv1 K N st.2) : Inv1 K N (r1 K N loss st s).2 := by
  rcases r1_form K N loss st s with ⟨x, e, hx⟩ | ⟨e, _⟩
  · rw [e]
    refine ⟨h.1.put _ _, fun t ht => ?_⟩
    by_cases hst : t = s
    · subst hst
      rw [numOf_put_same h.1]
      exact hx
    · rw [has_putS_other hst] at ht
      rw [numOf_put_other hst]
      exact h.2 t ht
  · rw [e]; exact h
theorem r1_up {K N : DataW H} (loss : Int) {st : Int × DataW H} (s t : ByteArray) (hm : IsMap st.2) (h : Maps.has st.2 (keyS t) = true) : Maps.has (r1 K N loss st s).2 (keyS t) = true := by
  rcases r1_form K N loss st s with ⟨x, e, hx⟩ | ⟨e, _⟩
  · rw [e]
    by_cases hst : t = s
    · subst hst; exact has_putS_same hm _ _
    · rw [has_putS_other hst]; exact h
  · rw [e]; exact h
theorem r1_fold {K N : DataW H} (loss : Int) : ∀ (ks : List ByteArray) (st : Int × DataW H), Inv1 K N st.2 →
    Inv1 K N (ks.foldl (r1 K N loss) st).2 ∧ (∀ t, Maps.has st.2 (keyS t) = true → Maps.has (ks.foldl (r1 K N loss) st).2 (keyS t) = true) ∧
    (∀ t ∈ ks, Maps.has (ks.foldl (r1 K N loss) st).2 (keyS t) = false → Maps.has K (keyS t) = false ∨ Maps.has N (keyS t) = false)
  | [], st, h => ⟨h, fun _ ht => ht, fun t ht => by cases ht⟩
  | s :: ks, st, h => by
    obtain ⟨h1, h2, h3⟩ := r1_fold loss ks (r1 K N loss st s) (r1_inv loss s h)
    refine ⟨h1, fun t ht => h2 t (r1_up loss s t h.1 ht), fun t ht hf => ?_⟩
    rcases List.mem_cons.1 ht with rfl | ht
    · rcases r1_form K N loss st t with ⟨x, e, hx⟩ | ⟨_, hx⟩
      · have := h2 t (by rw [e]; exact has_putS_same h.1 _ _)
        rw [List.foldl_cons] at hf
        rw [hf] at this
        cases this
      · exact hx
    · exact h3 t ht hf
theorem half_says {D : DS H} (loss : Int) (hK : IsMap D.kept) (hN : Keyed' D.names) (s : ByteArray) :
    (Maps.has (D.half loss).2 (keyS s) = true → (Maps.has D.kept (keyS s) = true ∧ numOf (D.half loss).2 s = numOf D.kept s) ∨ (Maps.has D.names (keyS s) = true ∧ numOf (D.half loss).2 s = numOf D.names s)) ∧
    (Maps.has (D.half loss).2 (keyS s) = false → Maps.has D.kept (keyS s) = false ∨ Maps.has D.names (keyS s) = false) := by
  obtain ⟨h1, h2, h3⟩ := r1_fold (K := D.kept) (N := D.names) loss (keysOf D.all) (0, .map []) ⟨⟨[], rfl⟩, fun s hs => by cases hs⟩
  refine ⟨h1.2 s, fun hf => ?_⟩
  by_cases hk : Maps.has D.all (keyS s) = true
  · exact h3 s (mem_keysOf hk) hf
  · unfold DS.all at hk
    rw [has_merge hK hN] at hk
    simp at hk
    exact .inl hk.1

/-! ### the files -/
def Cut (F : DataW H) (k : Int) (z : List UInt8 × Int) : Prop := ∃ m : Nat, (fileOf F k).2 ≤ m ∧ m ≤ (fileOf F k).1.length ∧ z = ((fileOf F k).1.take m, (m : Int))
def Inv2 (F M : DataW H) : Prop := IsMap M ∧ ∀ k, Maps.has M (.int .i64 k) = true → Cut F k (fileOf M k)
theorem r2_form {L : Nat} {D : DS H} (hg : D.good L) (N : DataW H) (loss : Int) (st : Int × DataW H) (s : ByteArray) :
    ((r2 N D.files loss st s).2 = st.2 ∧ Maps.has st.2 (.int .i64 (numOf N s)) = true) ∨ ∃ m : Nat, (fileOf D.files (numOf N s)).2 ≤ m ∧ m ≤ (fileOf D.files (numOf N s)).1.length ∧ (r2 N D.files loss st s).2 = st.2.put (.int .i64 (numOf N s)) (.agg [.lit (.string ((fileOf D.files (numOf N s)).1.take m)), .lit (.int .i64 m)]) := by
  obtain ⟨g1, g2, _⟩ := hg.fs (numOf N s)
  unfold r2
  split
  · rename_i h
    exact .inl ⟨rfl, h⟩
  · right
    split
    · rename_i h
      have hr0 := Int.emod_nonneg (mixV loss (st.1 + 1)) (b := ((fileOf D.files (numOf N s)).1.length : Int) - (fileOf D.files (numOf N s)).2 + 1) (by omega)
      have hr1 := Int.emod_lt_of_pos (mixV loss (st.1 + 1)) (b := ((fileOf D.files (numOf N s)).1.length : Int) - (fileOf D.files (numOf N s)).2 + 1) (by omega)
      generalize mixV loss (st.1 + 1) % (((fileOf D.files (numOf N s)).1.length : Int) - (fileOf D.files (numOf N s)).2 + 1) = r at *
      refine ⟨((fileOf D.files (numOf N s)).2 + r).toNat, by omega, by omega, ?_⟩
      rw [Int.toNat_of_nonneg (by omega)]
    · refine ⟨(fileOf D.files (numOf N s)).1.length, g2, Nat.le_refl _, ?_⟩
      rw [List.take_length]
theorem has_putI_other {M : DataW H} {j k : Int} (h : j ≠ k) (d : DataW H) : Maps.has (M.put (.int .i64 k) d) (.int .i64 j) = Maps.has M (.int .i64 j) := has_put_other (key_ne h) d
theorem has_putI_same {M : DataW H} (hm : IsMap M) (k : Int) (d : DataW H) : Maps.has (M.put (.int .i64 k) d) (.int .i64 k) = true := has_put_same hm (by simp [Go.WideAt.IsKeyLit]) d
theorem r2_fold {L : Nat} {D : DS H} (hg : D.good L) (N : DataW H) (loss : Int) : ∀ (ks : List ByteArray) (st : Int × DataW H), Inv2 D.files st.2 →
    Inv2 D.files (ks.foldl (r2 N D.files loss) st).2 ∧ (∀ k, Maps.has st.2 (.int .i64 k) = true → Maps.has (ks.foldl (r2 N D.files loss) st).2 (.int .i64 k) = true) ∧
    (∀ t ∈ ks, Maps.has (ks.foldl (r2 N D.files loss) st).2 (.int .i64 (numOf N t)) = true)
  | [], st, h => ⟨h, fun _ ht => ht, fun t ht => by cases ht⟩
  | s :: ks, st, h => by
    have hstep : Inv2 D.files (r2 N D.files loss st s).2 ∧ (∀ k, Maps.has st.2 (.int .i64 k) = true → Maps.has (r2 N D.files loss st s).2 (.int .i64 k) = true) ∧ Maps.has (r2 N D.files loss st s).2 (.int .i64 (numOf N s)) = true := by
      rcases r2_form hg N loss st s with ⟨e, hh⟩ | ⟨m, m0, m1, e⟩
      · rw [e]; exact ⟨h, fun _ hk => hk, hh⟩
      · rw [e]
        refine ⟨⟨h.1.put _ _, fun k hk => ?_⟩, fun k hk => ?_, has_putI_same h.1 _ _⟩
        · rw [fileOf_put h.1]
          split
          · rename_i e1
            rw [e1]
            exact ⟨m, m0, m1, rfl⟩
          · rename_i e1
            rw [has_putI_other e1] at hk
            exact h.2 k hk
        · by_cases e1 : k = numOf N s
          · rw [e1]; exact has_putI_same h.1 _ _
          · rw [has_putI_other e1]; exact hk
    obtain ⟨a1, a2, a3⟩ := hstep
    obtain ⟨h1, h2, h3⟩ := r2_fold hg N loss ks (r2 N D.files loss st s) a1
    refine ⟨h1, fun t ht => h2 t (a2 t ht), fun t ht => ?_⟩
    rcases List.mem_cons.1 ht with rfl | ht
    · exact h2 _ a3
    · exact h3 t ht
theorem full_says {L : Nat} {D : DS H} (hg : D.good L) (loss : Int) {s : ByteArray} (h : Maps.has (D.half loss).2 (keyS s) = true) : Cut D.files (numOf (D.half loss).2 s) (fileOf (D.full loss).2 (numOf (D.half loss).2 s)) := by
  obtain ⟨h1, _, h3⟩ := r2_fold hg (D.half loss).2 loss (keysOf (D.half loss).2) ((D.half loss).1, .map []) ⟨⟨[], rfl⟩, fun k hk => by cases hk⟩
  exact h1.2 _ (h3 s (mem_keysOf h))
/-- **What a file's name answers behind Restart.** -/
theorem read_restart {L : Nat} {D : DS H} (hg : D.good L) (hK : IsMap D.kept) (hN : Keyed' D.names) (loss : Int) {s : ByteArray} (hs : nameB s = true) :
    (readE (D.restart loss) s = 11 ∧ (readS (D.restart loss) s).data.toList = [] ∧ (Maps.has D.kept (keyS s) = false ∨ Maps.has D.names (keyS s) = false)) ∨
    (readE (D.restart loss) s = 0 ∧ ∃ (k : Int) (m : Nat), ((Maps.has D.kept (keyS s) = true ∧ k = numOf D.kept s) ∨ (Maps.has D.names (keyS s) = true ∧ k = numOf D.names s)) ∧ (fileOf D.files k).2 ≤ m ∧ m ≤ (fileOf D.files k).1.length ∧ (readS (D.restart loss) s).data.toList = (fileOf D.files k).1.take m) := by
  have hm : mayE [s] (D.restart loss).down = 0 := by
    show mayE [s] false = 0
    simp [mayE, hs]
  obtain ⟨a1, a2⟩ := half_says loss hK hN s
  cases hh : Maps.has (D.half loss).2 (keyS s) with
  | false =>
    left
    have hh' : Maps.has (D.restart loss).names (keyS s) = false := hh
    unfold readE readS
    rw [if_neg (by rw [hm]; simp), if_pos hh', if_neg (by rw [hm]; simp), if_pos hh']
    exact ⟨rfl, rfl, a2 hh⟩
  | true =>
    right
    have hh' : ¬ Maps.has (D.restart loss).names (keyS s) = false := by
      show ¬ Maps.has (D.half loss).2 (keyS s) = false
      rw [hh]; simp
    obtain ⟨m, m0, m1, e⟩ := full_says hg loss hh
    unfold readE readS
    rw [if_neg (by rw [hm]; simp), if_neg hh', if_neg (by rw [hm]; simp), if_neg hh']
    refine ⟨rfl, numOf (D.half loss).2 s, m, a1 hh, m0, m1, ?_⟩
    show (fileOf (D.full loss).2 (numOf (D.half loss).2 s)).1 = _
    rw [e]
end
end Go.Proofs.Ytfiphjhpjaddcaa
