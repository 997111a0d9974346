/- How many sets are met where characters' ranges stand one behind another (plain Lean). -/
import Derived.Test.YtclahhkcbkpofaaDoorHFuz26
namespace Go.Proofs.YtclahhkcbkpofaaDoor
open Sp

theorem cands_one {rs : List (List (Int × Int))} (h : rs.length ≤ 1) : (candsU rs).length ≤ 40 := by
  have k : ∀ d, (prodL (cutsU rs d)).length ≤ 3 ^ d := fun d => by
    have h1 := prodL_len (cs := cutsU rs d) (m := 3) fun c hc => by
      unfold cutsU at hc
      obtain ⟨k, _, rfl⟩ := List.mem_map.1 hc
      rw [cutsAt_len]
      have := List.length_filter_le (fun r => decide (d < r.length)) rs
      omega
    rwa [cutsU_len] at h1
  have k1 := k 1
  have k2 := k 2
  have k3 := k 3
  unfold candsU
  rw [List.length_cons, List.length_map, List.length_append, List.length_append]
  omega
open Classical in
noncomputable def candK (n N : Nat) (rss : Rowss) (k : Nat) : List (List Int) := setL n (fun y => y = k) :: (candsU (rss[k]?.getD [])).map fun m => setL n fun y => ∃ u, m = some u ∧ midsP (offN N rss k) (rss[k]?.getD []) u y
open Classical in
noncomputable def candW (n N : Nat) (rss : Rowss) : List (List Int) := setL n (fun _ => False) :: setL n (fun y => y = rss.length ∨ y = rss.length + 1) :: (List.range (rss.length + 1)).flatMap (candK n N rss)
theorem flat_few {β : Type} (f : Nat → List β) (K a b : Nat) (ha : ∀ k, k ≠ K → (f k).length ≤ a) (hb : (f K).length ≤ b) : ∀ n, ((List.range n).flatMap f).length ≤ n * a + if K < n then b else 0
  | 0 => by simp
  | n + 1 => by
    have ih := flat_few f K a b ha hb n
    rw [List.range_succ, List.flatMap_append, List.length_append, Nat.add_mul]
    have e : ([n].flatMap f).length = (f n).length := by simp
    rw [e]
    by_cases h : n = K
    · subst h
      rw [if_neg (by omega)] at ih
      rw [if_pos (by omega)]
      omega
    · have := ha n h
      split at ih
      · rw [if_pos (by omega)]; omega
      · split <;> omega
theorem candW_len {n N : Nat} {rss : Rowss} {K : Nat} (hr : OkR rss) (hK : ∀ k, k ≠ K → (rss[k]?.getD []).length ≤ 1) : (candW n N rss).length ≤ (rss.length + 1) * 41 + 4645 := by
  have h := flat_few (candK n N rss) K 41 4643 (fun k hk => by
    unfold candK
    rw [List.length_cons, List.length_map]
    have := cands_one (hK k hk)
    omega) (by
    unfold candK
    rw [List.length_cons, List.length_map]
    have h1 : RowsU (rss[K]?.getD []) := by
      cases h : rss[K]? with
      | none => exact ⟨fun r hr => absurd hr List.not_mem_nil, fun r hr => absurd hr List.not_mem_nil, fun r hr => absurd hr List.not_mem_nil, fun r hr => absurd hr List.not_mem_nil, by simp, by simp, by simp⟩
      | some rs =>
        obtain ⟨lo, hi, rfl⟩ := hr rs (List.mem_of_getElem? h)
        exact all_rowsU lo hi
    have := candsU_len h1
    omega) (rss.length + 1)
  unfold candW
  rw [List.length_cons, List.length_cons]
  split at h <;> omega
theorem wild_few {rss : Rowss} {star : Bool} {K : Nat} (hr : OkR rss) (hK : ∀ k, k ≠ K → (rss[k]?.getD []).length ≤ 1) (f : Nat) :
    ((subW (wildL rss star)).run f 0 [setL (wildL rss star).length (Clo (wildL rss star) fun x => x = 0)]).length ≤ (rss.length + 1) * 41 + 4645 := by
  obtain ⟨n, hn⟩ : ∃ n, (wildL rss star).length = n := ⟨_, rfl⟩
  obtain ⟨N, hN⟩ : ∃ N, endN rss star + 1 = N := ⟨_, rfl⟩
  have hNm : rss.length + 1 ≤ N := by rw [← hN]; cases star <;> simp [endN]
  refine Nat.le_trans (met_few (candW n N rss) (fun t => ?_) f) (candW_len hr hK)
  rw [hn]
  have hb : ∀ y, y < N → (Way (edgeL (wildL rss star)) 0 t y ↔ atB rss star t y) := fun y hy => wild_way hr (by omega)
  have hm : ∀ y, N ≤ y → (Way (edgeL (wildL rss star)) 0 t y ↔ ∃ (k : Nat) (rs : List (List (Int × Int))) (t' u : List Nat), rss[k]? = some rs ∧ t = t' ++ u ∧ Sg (rss.take k) t' ∧ midsP (offN N rss k) rs u y) := fun y hy => by
    rw [wild_mid hr (by omega), hN]
  have hp : ∀ {k : Nat} {rs : List (List (Int × Int))} {u : List Nat} {y : Nat}, rss[k]? = some rs → midsP (offN N rss k) rs u y → Prt u := fun h0 h => by
    obtain ⟨lo, hi, rfl⟩ := hr _ (List.mem_of_getElem? h0)
    exact mid_prt (fun _ h => h) h
  have hge : ∀ {k : Nat} {rs : List (List (Int × Int))} {u : List Nat} {y : Nat}, midsP (offN N rss k) rs u y → N ≤ y := fun h => Nat.le_trans offN_ge (midsP_in h).1
  by_cases h1 : ∃ k t' u, k < rss.length ∧ t = t' ++ u ∧ Sg (rss.take k) t' ∧ Prt u
  · obtain ⟨k, t', u, hk, rfl, hs, hu⟩ := h1
    obtain ⟨rs, hrs⟩ : ∃ rs, rss[k]? = some rs := ⟨rss[k], List.getElem?_eq_getElem hk⟩
    obtain ⟨lo, hi, ers⟩ := hr rs (List.mem_of_getElem? hrs)
    have hR : RowsU rs := by rw [ers]; exact all_rowsU lo hi
    have hset : setL n (fun y => Way (edgeL (wildL rss star)) 0 (t' ++ u) y) = setL n fun y => midsP (offN N rss k) rs u y := setL_congr fun y hy => by
      by_cases hyN : y < N
      · rw [hb y hyN]
        constructor
        · rintro (⟨h2, h3⟩ | ⟨a, b, h2, h3, _⟩)
          · have := (at_one hr (by omega) (by omega) hs h3 (.inr hu) (.inl rfl) (by rw [List.append_nil])).2.2
            exact absurd this (prt_ne hu)
          · exact (at_end hr hk hs (.inr hu) h3 h2).elim
        · intro h
          have := hge h
          omega
      · rw [hm y (by omega)]
        constructor
        · rintro ⟨k', rs', a, b, h2, h3, h4, h5⟩
          have hk' := (List.getElem?_eq_some_iff.1 h2).1
          obtain ⟨rfl, rfl, rfl⟩ := at_one hr (by omega) (by omega) hs h4 (.inr hu) (.inr (hp h2 h5)) h3
          rw [hrs] at h2
          injection h2 with h2
          rw [h2]
          exact h5
        · exact fun h => ⟨k, rs, t', u, hrs, rfl, hs, h⟩
    rw [hset]
    unfold candW
    refine List.mem_cons_of_mem _ (List.mem_cons_of_mem _ (List.mem_flatMap.2 ⟨k, List.mem_range.2 (by omega), ?_⟩))
    unfold candK
    rw [hrs]
    refine List.mem_cons_of_mem _ ?_
    by_cases h3 : ∃ y, midsP (offN N rss k) rs u y
    · obtain ⟨y0, h3⟩ := h3
      obtain ⟨_, hu3⟩ := mids_shape hR (fun _ h => h) h3
      have hu0 : 0 < u.length := List.length_pos_iff.2 (prt_ne hu)
      refine List.mem_map.2 ⟨some (repU (cutsU rs u.length) u), ?_, setL_congr fun y _ => ?_⟩
      · unfold candsU
        refine List.mem_cons_of_mem _ (List.mem_map_of_mem ?_)
        have hm := prodL_mem (cs := cutsU rs u.length) (u := u) (cutsU_len rs u.length) fun c hc => by
          unfold cutsU at hc
          obtain ⟨k, _, rfl⟩ := List.mem_map.1 hc
          exact List.mem_cons_self ..
        have h3 : u.length = 1 ∨ u.length = 2 ∨ u.length = 3 := by omega
        rw [List.mem_append, List.mem_append]
        rcases h3 with h3 | h3 | h3 <;> rw [h3] at hm ⊢
        · exact .inl (.inl hm)
        · exact .inl (.inr hm)
        · exact .inr hm
      · constructor
        · rintro ⟨v, hv, h⟩
          injection hv with hv
          rw [← hv] at h
          exact (mids_rep hR.ok fun _ h => h).2 h
        · exact fun h => ⟨_, rfl, (mids_rep hR.ok fun _ h => h).1 h⟩
    · refine List.mem_map.2 ⟨none, List.mem_cons_self .., setL_congr fun y _ => ⟨?_, fun h => absurd ⟨y, h⟩ h3⟩⟩
      rintro ⟨u', h, _⟩
      cases h
  · have hnm : ∀ y, N ≤ y → ¬ Way (edgeL (wildL rss star)) 0 t y := fun y hy h => by
      obtain ⟨k, rs, t', u, h0, h2, h3, h4⟩ := (hm y hy).1 h
      exact h1 ⟨k, t', u, (List.getElem?_eq_some_iff.1 h0).1, h2, h3, hp h0 h4⟩
    have hset : ∀ P : Nat → Prop, (∀ y, N ≤ y → ¬ P y) → (∀ y, y < N → (atB rss star t y ↔ P y)) → setL n (fun y => Way (edgeL (wildL rss star)) 0 t y) = setL n P := fun P h2 h3 => setL_congr fun y _ => by
      by_cases hyN : y < N
      · rw [hb y hyN]; exact h3 y hyN
      · exact ⟨fun h => absurd h (hnm y (by omega)), fun h => absurd h (h2 y (by omega))⟩
    by_cases h2 : ∃ k, k < rss.length ∧ Sg (rss.take k) t
    · obtain ⟨k, hk, hs⟩ := h2
      rw [hset (fun y => y = k) (fun y hy => by omega) fun y hy => ⟨?_, ?_⟩]
      · unfold candW
        refine List.mem_cons_of_mem _ (List.mem_cons_of_mem _ (List.mem_flatMap.2 ⟨k, List.mem_range.2 (by omega), ?_⟩))
        unfold candK
        exact List.mem_cons_self ..
      · rintro (⟨h3, h4⟩ | ⟨a, b, h3, h4, _⟩)
        · exact (at_one hr (by omega) (by omega) hs h4 (.inl rfl) (.inl rfl) rfl).1.symm
        · exact (at_end hr hk hs (.inl rfl) h4 (by rw [List.append_nil]; exact h3)).elim
      · rintro rfl
        exact .inl ⟨hk, hs⟩
    · by_cases h3 : ∃ u v, t = u ++ v ∧ Sg rss u ∧ (star = true ∧ (∀ c ∈ v, c ≤ 255) ∨ star = false ∧ v = [])
      · obtain ⟨u, v, h3, h4, h5⟩ := h3
        rcases h5 with ⟨rfl, h5⟩ | ⟨rfl, rfl⟩
        · rw [hset (fun y => y = rss.length ∨ y = rss.length + 1) (fun y hy h => by have : rss.length + 1 + 1 = N := hN; omega) fun y hy => ⟨?_, ?_⟩]
          · unfold candW
            exact List.mem_cons_of_mem _ (List.mem_cons_self ..)
          · rintro (⟨h6, h7⟩ | ⟨a, b, _, _, h6⟩)
            · exact absurd ⟨y, h6, h7⟩ h2
            · exact h6.1
          · exact fun h => .inr ⟨u, v, h3, h4, h, h5⟩
        · rw [hset (fun y => y = rss.length) (fun y hy h => by omega) fun y hy => ⟨?_, ?_⟩]
          · unfold candW
            refine List.mem_cons_of_mem _ (List.mem_cons_of_mem _ (List.mem_flatMap.2 ⟨rss.length, List.mem_range.2 (by omega), ?_⟩))
            unfold candK
            exact List.mem_cons_self ..
          · rintro (⟨h6, h7⟩ | ⟨a, b, _, _, h6⟩)
            · exact absurd ⟨y, h6, h7⟩ h2
            · exact h6.2
          · rintro rfl
            exact .inr ⟨u, [], h3, h4, rfl, rfl⟩
      · rw [hset (fun _ => False) (fun y hy h => h) fun y hy => ⟨?_, False.elim⟩]
        · unfold candW
          exact List.mem_cons_self ..
        · rintro (⟨h6, h7⟩ | ⟨a, b, h6, h7, h8⟩)
          · exact absurd ⟨y, h6, h7⟩ h2
          · refine absurd ⟨a, b, h6, h7, ?_⟩ h3
            cases star
            · exact .inr ⟨rfl, h8.1⟩
            · exact .inl ⟨rfl, h8.2⟩
/-- Patterns of characters, with one that stands for all at most. -/
theorem few_rows {q : List (Int × Int)} {K : Nat} (h : ∀ k p, k ≠ K → q[k]? = some p → p.1 = p.2) : ∀ k, k ≠ K → ((rowsOf q)[k]?.getD []).length ≤ 1 := fun k hk => by
  unfold rowsOf
  rw [List.getElem?_map]
  cases hq : q[k]? with
  | none => simp
  | some p =>
    have := h k p hk hq
    show (allP p.1 p.2).length ≤ 1
    rw [this]
    exact all_one _
end Go.Proofs.YtclahhkcbkpofaaDoor
/- Patterns as automata: bounds and stages (plain Lean). -/
namespace Go.Proofs.YtclahhkcbkpofaaDoor
open Sp

/-- The characters that a pattern's character stands for. -/
def rangeOf (c : Int) : Int × Int := if c = 63 then (0, 1114111) else (c, c)
abbrev rowsC (q : List Int) : Rowss := rowsOf (q.map rangeOf)
theorem rowsC_len (q : List Int) : (rowsC q).length = q.length := by
  show ((q.map rangeOf).map _).length = _
  rw [List.length_map, List.length_map]
theorem rowsC_at {q : List Int} {j : Nat} {c : Int} (h : q[j]? = some c) : (rowsC q)[j]? = some (allP (rangeOf c).1 (rangeOf c).2) := by
  show ((q.map rangeOf).map _)[j]? = _
  rw [List.getElem?_map, List.getElem?_map, h]
  rfl
theorem rowsC_ok (q : List Int) : OkR (rowsC q) := rowsOf_ok _
theorem rowsC_few {q : List Int} {K : Nat} (h : ∀ k c, k ≠ K → q[k]? = some c → c ≠ 63) : ∀ k, k ≠ K → ((rowsC q)[k]?.getD []).length ≤ 1 := few_rows fun k p hk hp => by
  rw [List.getElem?_map] at hp
  obtain ⟨c, hc, rfl⟩ := Option.map_eq_some_iff.1 hp
  unfold rangeOf
  rw [if_neg (h k c hk hc)]
theorem chainL_snoc : ∀ (rss : Rowss) (l : List Lst) (i : Nat) (rs : List (List (Int × Int))), chainL l i (rss ++ [rs]) = leadRows (chainL l i rss) (i + rss.length) (i + rss.length + 1) rs
  | [], _, _, _ => rfl
  | r :: rss, l, i, rs => by
    show chainL (leadRows l i (i + 1) r) (i + 1) (rss ++ [rs]) = _
    rw [chainL_snoc rss, List.length_cons, show i + 1 + rss.length = i + (rss.length + 1) by omega]
    rfl
/-- How far a pattern's automaton is made. -/
def stg (q : List Int) (star : Bool) (j : Nat) : List Lst := if j ≤ q.length then chainL (baseL (endN (rowsC q) star)) 0 ((rowsC q).take j) else wildL (rowsC q) star
theorem stg_zero (q : List Int) (star : Bool) : stg q star 0 = baseL (endN (rowsC q) star) := by
  unfold stg
  rw [if_pos (Nat.zero_le _)]
  rfl
theorem stg_step {q : List Int} {star : Bool} {j : Nat} {c : Int} (h : q[j]? = some c) : stg q star (j + 1) = leadRows (stg q star j) j (j + 1) (allP (rangeOf c).1 (rangeOf c).2) := by
  have hj := (List.getElem?_eq_some_iff.1 h).1
  have hr := rowsC_at h
  obtain ⟨hj2, e⟩ := List.getElem?_eq_some_iff.1 hr
  unfold stg
  rw [if_pos (by omega), if_pos (by omega), List.take_succ_eq_append_getElem hj2, e, chainL_snoc, List.length_take, Nat.zero_add, Nat.min_eq_left (by omega)]
theorem stg_full {q : List Int} {star : Bool} (h : star = false) : stg q star q.length = wildL (rowsC q) star := by
  subst h
  unfold stg
  rw [if_pos (Nat.le_refl _), ← rowsC_len q, List.take_length]
  rfl
theorem stg_star {q : List Int} : stg q true (q.length + 1) = starL (stg q true q.length) q.length := by
  unfold stg
  rw [if_neg (by omega), if_pos (Nat.le_refl _)]
  have e := rowsC_len q
  have e2 : (rowsC q).take q.length = rowsC q := by rw [← e, List.take_length]
  rw [e2]
  show starL (chainL (baseL ((rowsC q).length + 1)) 0 (rowsC q)) (rowsC q).length = starL (chainL (baseL ((rowsC q).length + 1)) 0 (rowsC q)) q.length
  rw [e]
/-! ### How long the states' lists are -/
def FewS (K : Nat) (l : List Lst) : Prop := ∀ s ∈ l, s.arcs.length ≤ K ∧ s.free.length ≤ 0
theorem FewS.more {K K' : Nat} {l : List Lst} (h : FewS K l) (hk : K ≤ K') : FewS K' l := fun s hs => ⟨Nat.le_trans (h s hs).1 hk, (h s hs).2⟩
theorem FewS.add {K : Nat} {l : List Lst} (h : FewS K l) (a : Nat) (z : Arc3) : FewS (K + 1) (addArc l a z) := fun s hs => by
  obtain ⟨j, hj⟩ := List.mem_iff_getElem?.1 hs
  by_cases e : a = j
  · subst e
    have hja : a < l.length := by rw [← addArc_len l a z]; exact (List.getElem?_eq_some_iff.1 hj).1
    rw [addArc_at _ (List.getElem?_eq_getElem hja)] at hj
    injection hj with hj
    subst hj
    have := h l[a] (List.getElem_mem _)
    refine ⟨?_, this.2⟩
    rw [List.length_append, List.length_singleton]
    omega
  · rw [addArc_ne _ e] at hj
    have := h s (List.mem_of_getElem? hj)
    exact ⟨by omega, this.2⟩
theorem FewS.bare {K : Nat} {l : List Lst} (h : FewS K l) : FewS K (l ++ [⟨false, [], []⟩]) := fun s hs => by
  rcases List.mem_append.1 hs with hs | hs
  · exact h s hs
  · rw [List.mem_singleton.1 hs]
    exact ⟨Nat.zero_le _, Nat.zero_le _⟩
theorem FewS.row : ∀ (r : List (Int × Int)) {K : Nat} {l : List Lst} (a b : Nat), FewS K l → FewS (K + r.length) (leadRow l a b r)
  | [], _, _, _, _, h => h
  | [p], _, _, a, b, h => h.add a _
  | p :: q :: r, K, l, a, b, h => by
    have := FewS.row (q :: r) l.length b ((h.bare).add a (p.1, p.2, (l.length : Int)))
    rw [List.length_cons, show K + ((q :: r).length + 1) = K + 1 + (q :: r).length by omega]
    exact this
theorem FewS.rows : ∀ (rs : List (List (Int × Int))) {K : Nat} {l : List Lst} (a b : Nat), (∀ r ∈ rs, r.length ≤ 4) → FewS K l → FewS (K + 4 * rs.length) (leadRows l a b rs)
  | [], _, _, _, _, _, h => h
  | r :: rs, K, l, a, b, hr, h => by
    show FewS _ (leadRows (leadRow l a b r) a b rs)
    have h1 := hr r (List.mem_cons_self ..)
    have h2 := FewS.rows rs a b (fun q hq => hr q (List.mem_cons_of_mem _ hq)) (h.row r a b)
    exact h2.more (by rw [List.length_cons]; omega)
theorem FewS.chain : ∀ (rss : Rowss) {K : Nat} {l : List Lst} (i : Nat), OkR rss → FewS K l → FewS (K + 80 * rss.length) (chainL l i rss)
  | [], _, _, _, _, h => h
  | rs :: rss, K, l, i, hr, h => by
    show FewS _ (chainL (leadRows l i (i + 1) rs) (i + 1) rss)
    obtain ⟨lo, hi, rfl⟩ := hr.head
    have h1 := Sp.all_len lo hi
    have h2 := FewS.chain rss (i + 1) hr.tail (h.rows (allP lo hi) i (i + 1) fun r hr => (all_ok lo hi r hr).2.1)
    exact h2.more (by rw [List.length_cons]; omega)
theorem base_few (n : Nat) : FewS 0 (baseL n) := fun s hs => by
  obtain ⟨j, hj⟩ := List.mem_iff_getElem?.1 hs
  obtain ⟨h1, h2, _⟩ := baseL_get hj
  rw [h1, h2]
  exact ⟨Nat.le_refl _, Nat.le_refl _⟩
theorem stg_few {q : List Int} {star : Bool} {j : Nat} (hj : j ≤ q.length) : FewS (80 * q.length) (stg q star j) := by
  unfold stg
  rw [if_pos hj]
  have h1 : OkR ((rowsC q).take j) := fun rs h => rowsC_ok q rs (List.mem_of_mem_take h)
  have h2 := FewS.chain ((rowsC q).take j) 0 h1 (base_few (endN (rowsC q) star))
  refine h2.more ?_
  rw [List.length_take, rowsC_len]
  omega
theorem stg_len {q : List Int} {star : Bool} {j : Nat} (hj : j ≤ q.length) : endN (rowsC q) star + 1 ≤ (stg q star j).length ∧ (stg q star j).length ≤ endN (rowsC q) star + 1 + 60 * j := by
  unfold stg
  rw [if_pos hj]
  have h1 : OkR ((rowsC q).take j) := fun rs h => rowsC_ok q rs (List.mem_of_mem_take h)
  have h2 := chain_len ((rowsC q).take j) (baseL (endN (rowsC q) star)) 0 h1
  rw [baseL_len, List.length_take, rowsC_len] at h2
  omega
/-- What is made of a pattern takes just this. -/
def MadeQ (q : List Int) (star : Bool) (D : List St) : Prop := D.length ≤ 20000 ∧ Good D ∧ ∀ t : List UInt8, takesB D t = looseTakes (wildL (rowsC q) star) t
end Go.Proofs.YtclahhkcbkpofaaDoor
/- Ranges of characters between any states: which texts lead where (plain Lean). -/
namespace Go.Proofs.YtclahhkcbkpofaaDoor
open Sp

/-- From a state to another, the characters of a range. -/
abbrev Ld := Nat × Nat × Int × Int
def leadsL : List Lst → List Ld → List Lst
  | l, [] => l
  | l, e :: es => leadsL (leadRows l e.1 e.2.1 (allP e.2.2.1 e.2.2.2)) es
def esE (es : List Ld) : Edge := fun x t y => ∃ e ∈ es, x = e.1 ∧ y = e.2.1 ∧ ∃ r ∈ allP e.2.2.1 e.2.2.2, fitN r t
def offM : Nat → List Ld → Nat → Nat
  | N, e :: es, k + 1 => offM (N + midsN (allP e.2.2.1 e.2.2.2)) es k
  | N, _, _ => N
theorem offM_ge : ∀ {es : List Ld} {N k : Nat}, N ≤ offM N es k
  | [], _, k => by cases k <;> exact Nat.le_refl _
  | _ :: _, _, 0 => Nat.le_refl _
  | e :: es, N, k + 1 => Nat.le_trans (Nat.le_add_right N (midsN (allP e.2.2.1 e.2.2.2))) (offM_ge (es := es) (k := k))
def OkE (n : Nat) (es : List Ld) : Prop := ∀ e ∈ es, e.1 < n ∧ e.2.1 < n
theorem OkE.more {n m : Nat} {es : List Ld} (h : OkE n es) (hm : n ≤ m) : OkE m es := fun e he => ⟨Nat.lt_of_lt_of_le (h e he).1 hm, Nat.lt_of_lt_of_le (h e he).2 hm⟩
theorem OkE.tail {n : Nat} {e : Ld} {es : List Ld} (h : OkE n (e :: es)) : OkE n es := fun x hx => h x (List.mem_cons_of_mem _ hx)
theorem esE_in {n : Nat} {es : List Ld} (h : OkE n es) : InE (esE es) n := by
  rintro x t y ⟨e, he, rfl, rfl, _⟩
  exact h e he
theorem esE_cons {e : Ld} {es : List Ld} {x y : Nat} {t : List Nat} : esE (e :: es) x t y ↔ oneE e.1 e.2.1 (fun t => ∃ r ∈ allP e.2.2.1 e.2.2.2, fitN r t) x t y ∨ esE es x t y := by
  unfold esE oneE
  constructor
  · rintro ⟨d, hd, h1, h2, h3⟩
    rcases List.mem_cons.1 hd with rfl | hd
    · exact .inl ⟨h1, h2, h3⟩
    · exact .inr ⟨d, hd, h1, h2, h3⟩
  · rintro (⟨h1, h2, h3⟩ | ⟨d, hd, h⟩)
    · exact ⟨e, List.mem_cons_self .., h1, h2, h3⟩
    · exact ⟨d, List.mem_cons_of_mem _ hd, h⟩
theorem esE_way {E X : Edge} {e : Ld} {es : List Ld} {x z : Nat} {s : List Nat} : Way (orE E (orE (oneE e.1 e.2.1 fun t => ∃ r ∈ allP e.2.2.1 e.2.2.2, fitN r t) (orE (esE es) X))) x s z ↔ Way (orE E (orE (esE (e :: es)) X)) x s z := by
  rw [orE_swap]
  exact Way.iff fun _ _ _ => or_congr Iff.rfl (or_congr esE_cons.symm Iff.rfl)
theorem leads_way : ∀ (es : List Ld) (l : List Lst) (X : Edge), OkE l.length es → InE (edgeL l) l.length → InE X l.length → ∀ {x z : Nat} {s : List Nat}, x < l.length → z < l.length →
    (Way (orE (edgeL (leadsL l es)) X) x s z ↔ Way (orE (edgeL l) (orE (esE es) X)) x s z)
  | [], l, X, _, _, _, x, z, s, _, _ => Way.iff fun _ _ _ => ⟨fun h => h.elim .inl fun h => .inr (.inr h), fun h => h.elim .inl fun h => h.elim (fun ⟨_, h, _⟩ => by cases h) .inr⟩
  | e :: es, l, X, hr, hl, hX, x, z, s, hx, hz => by
    obtain ⟨h1, h2⟩ := hr e (List.mem_cons_self ..)
    have hlen := leadRows_len (allP e.2.2.1 e.2.2.2) l e.1 e.2.1
    show Way (orE (edgeL (leadsL (leadRows l e.1 e.2.1 (allP e.2.2.1 e.2.2.2)) es)) X) x s z ↔ _
    rw [leads_way es _ X (hr.tail.more (by omega)) (leadRows_in _ l e.1 e.2.1 h1 h2 hl) (hX.more (by omega)) (by omega) (by omega),
      leadRows_way _ l e.1 e.2.1 (orE (esE es) X) (all_ne _ _) h1 h2 hl ((esE_in hr.tail).or hX) hx hz, esE_way]
theorem leads_mid : ∀ (es : List Ld) (l : List Lst) (X : Edge), OkE l.length es → InE (edgeL l) l.length → InE X l.length → ∀ {x y : Nat} {t : List Nat}, x < l.length → l.length ≤ y →
    (Way (orE (edgeL (leadsL l es)) X) x t y ↔ ∃ (k : Nat) (e : Ld) (t' u : List Nat), es[k]? = some e ∧ t = t' ++ u ∧ Way (orE (edgeL l) (orE (esE es) X)) x t' e.1 ∧ midsP (offM l.length es k) (allP e.2.2.1 e.2.2.2) u y)
  | [], l, X, _, hl, hX, x, y, t, hx, hy => by
    constructor
    · intro h
      exfalso
      have key : ∀ {a b : Nat} {t : List Nat}, Way (orE (edgeL l) X) a t b → a < l.length → b < l.length := by
        intro a b t h
        induction h with
        | nil => exact id
        | cons h1 _ ih => exact fun _ => ih ((hl.or hX) _ _ _ h1).2
      have := key (show Way (orE (edgeL l) X) x t y from h) hx
      omega
    · rintro ⟨k, rs, _, _, h, _⟩
      simp at h
  | e :: es, l, X, hr, hl, hX, x, y, t, hx, hy => by
    obtain ⟨ha, hb⟩ := hr e (List.mem_cons_self ..)
    have hlen := leadRows_len (allP e.2.2.1 e.2.2.2) l e.1 e.2.1
    have hl' := leadRows_in (allP e.2.2.1 e.2.2.2) l e.1 e.2.1 ha hb hl
    have hX' : InE (orE (esE es) X) l.length := (esE_in hr.tail).or hX
    have hw : ∀ {z : Nat} {s : List Nat}, z < l.length → (Way (orE (edgeL (leadRows l e.1 e.2.1 (allP e.2.2.1 e.2.2.2))) (orE (esE es) X)) x s z ↔ Way (orE (edgeL l) (orE (esE (e :: es)) X)) x s z) := fun {z s} hz => by
      rw [leadRows_way _ l e.1 e.2.1 (orE (esE es) X) (all_ne _ _) ha hb hl hX' hx hz, esE_way]
    show Way (orE (edgeL (leadsL (leadRows l e.1 e.2.1 (allP e.2.2.1 e.2.2.2)) es)) X) x t y ↔ _
    by_cases hyl : y < (leadRows l e.1 e.2.1 (allP e.2.2.1 e.2.2.2)).length
    · rw [leads_way es _ X (hr.tail.more (by omega)) hl' (hX.more (by omega)) (by omega) hyl, mids_way ha hb hl hX' hx hy]
      constructor
      · rintro ⟨t', u, rfl, h1, h2⟩
        exact ⟨0, e, t', u, rfl, rfl, (hw ha).1 h1, h2⟩
      · rintro ⟨k, e', t', u, h0, rfl, h1, h2⟩
        cases k with
        | zero =>
          injection h0 with h0
          subst h0
          exact ⟨t', u, rfl, (hw ha).2 h1, h2⟩
        | succ k =>
          exfalso
          have h3 := (midsP_in h2).1
          have h4 : l.length + midsN (allP e.2.2.1 e.2.2.2) ≤ offM l.length (e :: es) (k + 1) := offM_ge (es := es) (k := k)
          omega
    · rw [leads_mid es _ X (hr.tail.more (by omega)) hl' (hX.more (by omega)) (by omega) (by omega)]
      constructor
      · rintro ⟨k, e', t', u, h0, rfl, h1, h2⟩
        have he := (hr.tail e' (List.mem_of_getElem? h0)).1
        refine ⟨k + 1, e', t', u, h0, rfl, (hw he).1 h1, ?_⟩
        rw [hlen] at h2
        exact h2
      · rintro ⟨k, e', t', u, h0, rfl, h1, h2⟩
        cases k with
        | zero =>
          exfalso
          injection h0 with h0
          subst h0
          have h3 := (midsP_in h2).2
          have h4 : offM l.length (e :: es) 0 = l.length := rfl
          omega
        | succ k =>
          have h0 : es[k]? = some e' := h0
          have he := (hr.tail e' (List.mem_of_getElem? h0)).1
          refine ⟨k, e', t', u, h0, rfl, (hw he).2 h1, ?_⟩
          rw [hlen]
          exact h2
theorem all_mids (lo hi : Int) : midsN (allP lo hi) ≤ 60 := by
  have k : ∀ {rs : List (List (Int × Int))}, (∀ r ∈ rs, r.length ≤ 4) → midsN rs ≤ 3 * rs.length := by
    intro rs
    induction rs with
    | nil => exact fun _ => Nat.le_refl _
    | cons r rs ih =>
      intro h
      have h1 := h r (List.mem_cons_self ..)
      have h2 := ih fun r hr => h r (List.mem_cons_of_mem _ hr)
      rw [midsN, List.length_cons]
      omega
  have h2 := k fun r hr => (all_ok lo hi r hr).2.1
  have h3 := Sp.all_len lo hi
  omega
theorem leads_len : ∀ (es : List Ld) (l : List Lst), l.length ≤ (leadsL l es).length ∧ (leadsL l es).length ≤ l.length + 60 * es.length
  | [], _ => ⟨Nat.le_refl _, by simp [leadsL]⟩
  | e :: es, l => by
    obtain ⟨h1, h2⟩ := leads_len es (leadRows l e.1 e.2.1 (allP e.2.2.1 e.2.2.2))
    rw [leadRows_len] at h1 h2
    have hm := all_mids e.2.2.1 e.2.2.2
    rw [List.length_cons]
    show l.length ≤ (leadsL (leadRows l e.1 e.2.1 (allP e.2.2.1 e.2.2.2)) es).length ∧ (leadsL (leadRows l e.1 e.2.1 (allP e.2.2.1 e.2.2.2)) es).length ≤ _
    omega
theorem leads_fin : ∀ (es : List Ld) (l : List Lst) {z : Nat}, (∃ s, (leadsL l es)[z]? = some s ∧ s.fin = true) ↔ ∃ s, l[z]? = some s ∧ s.fin = true
  | [], _, _ => Iff.rfl
  | e :: es, l, _ => (leads_fin es (leadRows l e.1 e.2.1 (allP e.2.2.1 e.2.2.2))).trans fin_iff
theorem leads_good : ∀ (es : List Ld) (l : List Lst), OkE l.length es → LGood l → LGood (leadsL l es)
  | [], _, _, h => h
  | e :: es, l, hr, h => by
    have hlen := leadRows_len (allP e.2.2.1 e.2.2.2) l e.1 e.2.1
    exact leads_good es _ (hr.tail.more (by omega)) (h.rows _ (hr e (List.mem_cons_self ..)).2 fun r hr => (all_ok _ _ r hr).2.2)
theorem leadsL_snoc : ∀ (es : List Ld) (l : List Lst) (e : Ld), leadsL l (es ++ [e]) = leadRows (leadsL l es) e.1 e.2.1 (allP e.2.2.1 e.2.2.2)
  | [], _, _ => rfl
  | _ :: es, _, e => leadsL_snoc es _ e
/-- Lists of arcs and free ways stay short. -/
def FewT (K F : Nat) (l : List Lst) : Prop := ∀ s ∈ l, s.arcs.length ≤ K ∧ s.free.length ≤ F
theorem FewT.more {K K' F : Nat} {l : List Lst} (h : FewT K F l) (hk : K ≤ K') : FewT K' F l := fun s hs => ⟨Nat.le_trans (h s hs).1 hk, (h s hs).2⟩
theorem FewT.add {K F : Nat} {l : List Lst} (h : FewT K F l) (a : Nat) (z : Arc3) : FewT (K + 1) F (addArc l a z) := fun s hs => by
  obtain ⟨j, hj⟩ := List.mem_iff_getElem?.1 hs
  by_cases e : a = j
  · subst e
    have hja : a < l.length := by rw [← addArc_len l a z]; exact (List.getElem?_eq_some_iff.1 hj).1
    rw [addArc_at _ (List.getElem?_eq_getElem hja)] at hj
    injection hj with hj
    subst hj
    have := h l[a] (List.getElem_mem _)
    refine ⟨?_, this.2⟩
    rw [List.length_append, List.length_singleton]
    omega
  · rw [addArc_ne _ e] at hj
    have := h s (List.mem_of_getElem? hj)
    exact ⟨by omega, this.2⟩
theorem FewT.bare {K F : Nat} {l : List Lst} (h : FewT K F l) : FewT K F (l ++ [⟨false, [], []⟩]) := fun s hs => by
  rcases List.mem_append.1 hs with hs | hs
  · exact h s hs
  · rw [List.mem_singleton.1 hs]
    exact ⟨Nat.zero_le _, Nat.zero_le _⟩
theorem FewT.row : ∀ (r : List (Int × Int)) {K F : Nat} {l : List Lst} (a b : Nat), FewT K F l → FewT (K + r.length) F (leadRow l a b r)
  | [], _, _, _, _, _, h => h
  | [p], _, _, _, a, b, h => h.add a _
  | p :: q :: r, K, F, l, a, b, h => by
    have := FewT.row (q :: r) l.length b ((h.bare).add a (p.1, p.2, (l.length : Int)))
    rw [List.length_cons, show K + ((q :: r).length + 1) = K + 1 + (q :: r).length by omega]
    exact this
theorem FewT.rows : ∀ (rs : List (List (Int × Int))) {K F : Nat} {l : List Lst} (a b : Nat), (∀ r ∈ rs, r.length ≤ 4) → FewT K F l → FewT (K + 4 * rs.length) F (leadRows l a b rs)
  | [], _, _, _, _, _, _, h => h
  | r :: rs, K, F, l, a, b, hr, h => by
    show FewT _ _ (leadRows (leadRow l a b r) a b rs)
    have h1 := hr r (List.mem_cons_self ..)
    have h2 := FewT.rows rs a b (fun q hq => hr q (List.mem_cons_of_mem _ hq)) (h.row r a b)
    exact h2.more (by rw [List.length_cons]; omega)
theorem FewT.leads : ∀ (es : List Ld) {K F : Nat} {l : List Lst}, FewT K F l → FewT (K + 80 * es.length) F (leadsL l es)
  | [], _, _, _, h => h
  | e :: es, K, F, l, h => by
    show FewT _ _ (leadsL (leadRows l e.1 e.2.1 (allP e.2.2.1 e.2.2.2)) es)
    have h1 := Sp.all_len e.2.2.1 e.2.2.2
    have h2 := FewT.leads es (h.rows (allP e.2.2.1 e.2.2.2) e.1 e.2.1 fun r hr => (all_ok _ _ r hr).2.1)
    exact h2.more (by rw [List.length_cons]; omega)
end Go.Proofs.YtclahhkcbkpofaaDoor
