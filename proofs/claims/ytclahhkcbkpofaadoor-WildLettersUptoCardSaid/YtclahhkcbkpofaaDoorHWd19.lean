/- How many sets of states are met where a range's characters lead from one state to another (plain Lean). -/
import Derived.Test.YtclahhkcbkpofaaDoorHWd18
import Derived.Test.YtclahhkcbkpofaaDoorHWd5
import Derived.Test.YtclahhkcbkpofaaDoorHWd4
namespace Go.Proofs.YtclahhkcbkpofaaDoor
/-! ### Sets that are met are those of texts -/
theorem runP_snocC {l : List Lst} : ∀ (t : List Nat) (P : Nat → Prop) (c : Nat), runP l P (t ++ [c]) = Clo l (ovP l (runP l P t) c)
  | [], _, _ => rfl
  | b :: t, P, c => by
    show runP l (Clo l (ovP l P b)) (t ++ [c]) = _
    rw [runP_snocC t]
    rfl
theorem row_in {σ : Type} [DecidableEq σ] {W : Bfs σ} (hW : Plain W) (P : σ → Prop) (hP : ∀ x c y, P x → c < 256 → W.step x c = some y → P y) (x : σ) (hx : P x) {met : List σ} (h1 : met.Nodup) (h2 : ∀ z ∈ met, P z) : ∀ c, c ≤ 256 → (W.row x met c).Nodup ∧ ∀ z ∈ W.row x met c, P z
  | 0, _ => ⟨h1, h2⟩
  | n + 1, hn => by
    obtain ⟨h3, h4⟩ := row_in hW P hP x hx h1 h2 n (by omega)
    rw [Bfs.row]
    cases hs : W.step x n with
    | none => exact ⟨h3, h4⟩
    | some y =>
      simp only
      rw [hW.find, hW.rep]
      cases hf : findE y (W.row x met n) with
      | some i => exact ⟨h3, h4⟩
      | none =>
        refine ⟨List.nodup_append.2 ⟨h3, List.pairwise_singleton _ _, fun a ha b hb => ?_⟩, fun z hz => ?_⟩
        · rw [List.mem_singleton.1 hb]
          intro e
          have := findI_none.1 hf a ha
          rw [e] at this
          simp at this
        · rcases List.mem_append.1 hz with hz | hz
          · exact h4 z hz
          · rw [List.mem_singleton.1 hz]; exact hP x n y hx (by omega) hs
theorem runs_in {σ : Type} [DecidableEq σ] {W : Bfs σ} (hW : Plain W) (P : σ → Prop) (hP : ∀ x c y, P x → c < 256 → W.step x c = some y → P y) {x0 : σ} (h0 : P x0) : ∀ f, (W.run f 0 [x0]).Nodup ∧ ∀ z ∈ W.run f 0 [x0], P z
  | 0 => ⟨List.pairwise_singleton _ _, fun z hz => by rw [List.mem_singleton.1 hz]; exact h0⟩
  | f + 1 => by
    obtain ⟨h1, h2⟩ := runs_in hW P hP h0 f
    rw [W.run_succ]
    split
    · rename_i x hx
      exact row_in hW P hP _ (h2 x (List.mem_of_getElem? hx)) h1 h2 256 (Nat.le_refl _)
    · exact ⟨h1, h2⟩
theorem nodup_le {σ : Type} [DecidableEq σ] : ∀ {l L : List σ}, l.Nodup → (∀ x ∈ l, x ∈ L) → l.length ≤ L.length
  | [], _, _, _ => Nat.zero_le _
  | x :: l, L, hn, hs => by
    obtain ⟨h1, h2⟩ := List.nodup_cons.1 hn
    have h3 := nodup_le (l := l) (L := L.erase x) h2 fun y hy => (List.mem_erase_of_ne (fun e => h1 (by rw [← e]; exact hy))).2 (hs y (List.mem_cons_of_mem _ hy))
    have h4 := List.length_erase_of_mem (hs x (List.mem_cons_self ..))
    have h5 := List.length_pos_of_mem (hs x (List.mem_cons_self ..))
    rw [List.length_cons]
    omega
/-- If the sets of all texts stand in a list, no more of them are met. -/
theorem met_few {l : List Lst} (L : List (List Int)) (h : ∀ t : List Nat, setL l.length (fun y => Way (edgeL l) 0 t y) ∈ L) (f : Nat) : ((subW l).run f 0 [setL l.length (Clo l fun x => x = 0)]).length ≤ L.length := by
  have hr : ∀ t, runP l (Clo l fun x => x = 0) t = fun y => Way (edgeL l) 0 t y := fun t => by
    funext y
    apply propext
    rw [run_way]
    exact ⟨fun ⟨x, hx, hw⟩ => by rw [← hx]; exact hw, fun hw => ⟨0, rfl, hw⟩⟩
  obtain ⟨h1, h2⟩ := runs_in (subW_plain l) (fun S => ∃ t, S = setL l.length (runP l (Clo l fun x => x = 0) t)) (fun S c T ⟨t, ht⟩ _ hs => by
    have hs : stepS l S c = some T := hs
    unfold stepS at hs
    split at hs
    · injection hs with hs
      refine ⟨t ++ [c], ?_⟩
      rw [← hs, runP_snocC, ht, overP_set]
    · cases hs) (x0 := setL l.length (Clo l fun x => x = 0)) ⟨[], rfl⟩ f
  refine nodup_le h1 fun S hS => ?_
  obtain ⟨t, ht⟩ := h2 S hS
  rw [ht, hr t]
  exact h t
/-! ### Cuts: bytes that stand for all -/
def repB (cs : List Nat) (c : Nat) : Nat := (cs.filter (· ≤ c)).foldl max 0
theorem foldl_max (cs : List Nat) : ∀ m, m ≤ cs.foldl max m ∧ (∀ x ∈ cs, x ≤ cs.foldl max m) ∧ (cs.foldl max m = m ∨ cs.foldl max m ∈ cs) := by
  induction cs with
  | nil => exact fun m => ⟨Nat.le_refl _, fun x hx => absurd hx List.not_mem_nil, .inl rfl⟩
  | cons a cs ih =>
    intro m
    obtain ⟨h1, h2, h3⟩ := ih (max m a)
    rw [List.foldl_cons]
    refine ⟨by omega, fun x hx => ?_, ?_⟩
    · rcases List.mem_cons.1 hx with rfl | hx
      · omega
      · exact h2 x hx
    · rcases h3 with h3 | h3
      · rw [h3]
        by_cases h : a ≤ m
        · left; omega
        · right
          rw [show max m a = a by omega]
          exact List.mem_cons_self ..
      · exact .inr (List.mem_cons_of_mem _ h3)
theorem repB_le (cs : List Nat) (c : Nat) : repB cs c ≤ c := by
  obtain ⟨_, _, h⟩ := foldl_max (cs.filter (· ≤ c)) 0
  unfold repB
  rcases h with h | h
  · rw [h]; exact Nat.zero_le _
  · have := (List.mem_filter.1 h).2
    simpa using this
theorem repB_ge {cs : List Nat} {c x : Nat} (hx : x ∈ cs) (h : x ≤ c) : x ≤ repB cs c := (foldl_max (cs.filter (· ≤ c)) 0).2.1 x (List.mem_filter.2 ⟨hx, by simpa using h⟩)
theorem repB_mem {cs : List Nat} (h0 : 0 ∈ cs) (c : Nat) : repB cs c ∈ cs := by
  obtain ⟨_, _, h⟩ := foldl_max (cs.filter (· ≤ c)) 0
  unfold repB
  rcases h with h | h
  · rw [h]; exact h0
  · exact (List.mem_filter.1 h).1
theorem repB_fit {cs : List Nat} {c : Nat} {p : Int × Int} (h1 : p.1.toNat ∈ cs) (h2 : (p.2 + 1).toNat ∈ cs) (h3 : 0 ≤ p.1) (h4 : 0 ≤ p.2) : (p.1 ≤ (c : Int) ∧ (c : Int) ≤ p.2) ↔ (p.1 ≤ (repB cs c : Int) ∧ (repB cs c : Int) ≤ p.2) := by
  have hle := repB_le cs c
  constructor
  · rintro ⟨k1, k2⟩
    have := repB_ge (c := c) h1 (by omega)
    omega
  · rintro ⟨k1, k2⟩
    refine ⟨by omega, ?_⟩
    by_cases h : (c : Int) ≤ p.2
    · exact h
    · have := repB_ge (c := c) h2 (by omega)
      omega
def repU : List (List Nat) → List Nat → List Nat
  | c :: cs, x :: u => repB c x :: repU cs u
  | _, _ => []
theorem repU_len : ∀ {cs : List (List Nat)} {u : List Nat}, cs.length = u.length → (repU cs u).length = u.length
  | [], [], _ => rfl
  | _ :: cs, _ :: u, h => by
    rw [repU, List.length_cons, List.length_cons, repU_len (by simpa using h)]
def prodL : List (List Nat) → List (List Nat)
  | [] => [[]]
  | c :: cs => c.flatMap fun x => (prodL cs).map (x :: ·)
theorem prodL_mem : ∀ {cs : List (List Nat)} {u : List Nat}, cs.length = u.length → (∀ c ∈ cs, 0 ∈ c) → repU cs u ∈ prodL cs
  | [], [], _, _ => by simp [repU, prodL]
  | c :: cs, x :: u, h, h0 => by
    rw [repU, prodL, List.mem_flatMap]
    exact ⟨repB c x, repB_mem (h0 c (List.mem_cons_self ..)) x, List.mem_map_of_mem (prodL_mem (by simpa using h) fun c hc => h0 c (List.mem_cons_of_mem _ hc))⟩
theorem flat_const {α β : Type} (f : α → List β) (m : Nat) (hf : ∀ x, (f x).length = m) (l : List α) : (l.flatMap f).length = l.length * m := by
  induction l with
  | nil => simp
  | cons x l ih => rw [List.flatMap_cons, List.length_append, ih, hf, List.length_cons, Nat.add_mul]; omega
theorem prodL_len : ∀ {cs : List (List Nat)} {m : Nat}, (∀ c ∈ cs, c.length ≤ m) → (prodL cs).length ≤ m ^ cs.length
  | [], _, _ => by simp [prodL]
  | c :: cs, m, h => by
    rw [prodL, flat_const _ (prodL cs).length (fun x => List.length_map ..), List.length_cons, Nat.pow_succ, Nat.mul_comm]
    exact Nat.mul_le_mul (prodL_len fun c hc => h c (List.mem_cons_of_mem _ hc)) (h c (List.mem_cons_self ..))
theorem rep_fit : ∀ {q : List (Int × Int)} {cs : List (List Nat)} {u : List Nat}, q.length = u.length → cs.length = u.length → (∀ (k : Nat) p c, q[k]? = some p → cs[k]? = some c → p.1.toNat ∈ c ∧ (p.2 + 1).toNat ∈ c) → (∀ p ∈ q, 0 ≤ p.1 ∧ 0 ≤ p.2) → (fitN q u ↔ fitN q (repU cs u))
  | [], [], [], _, _, _, _ => Iff.rfl
  | [], _ :: _, [], _, h, _, _ => by simp at h
  | [], _, _ :: _, h, _, _, _ => by simp at h
  | _ :: _, _, [], h, _, _, _ => by simp at h
  | _ :: _, [], _ :: _, _, h, _, _ => by simp at h
  | p :: q, c :: cs, x :: u, h1, h2, h3, h4 => by
    have ih := rep_fit (q := q) (cs := cs) (u := u) (by simpa using h1) (by simpa using h2) (fun k p c hp hc => h3 (k + 1) p c (by simpa using hp) (by simpa using hc)) fun p hp => h4 p (List.mem_cons_of_mem _ hp)
    obtain ⟨k1, k2⟩ := h3 0 p c rfl rfl
    obtain ⟨k3, k4⟩ := h4 p (List.mem_cons_self ..)
    have hb := repB_fit (c := x) k1 k2 k3 k4
    show (p.1 ≤ (x : Int) ∧ (x : Int) ≤ p.2 ∧ fitN q u) ↔ (p.1 ≤ (repB c x : Int) ∧ (repB c x : Int) ≤ p.2 ∧ fitN q (repU cs u))
    rw [← and_assoc, ← and_assoc, hb, ih]
def cutsAt (rs : List (List (Int × Int))) (d k : Nat) : List Nat := 0 :: (rs.filter fun r => decide (d < r.length)).flatMap fun r => match r[k]? with
  | some p => [p.1.toNat, (p.2 + 1).toNat]
  | none => [0, 0]
theorem cutsAt_len (rs : List (List (Int × Int))) (d k : Nat) : (cutsAt rs d k).length = 1 + (rs.filter fun r => decide (d < r.length)).length * 2 := by
  unfold cutsAt
  rw [List.length_cons, flat_const _ 2 (fun r => by split <;> rfl)]
  omega
def cutsU (rs : List (List (Int × Int))) (d : Nat) : List (List Nat) := (List.range d).map (cutsAt rs d)
theorem cutsU_len (rs : List (List (Int × Int))) (d : Nat) : (cutsU rs d).length = d := by unfold cutsU; rw [List.length_map, List.length_range]
theorem mids_rep {rs : List (List (Int × Int))} (hr : ∀ r ∈ rs, ∀ p ∈ r, 0 ≤ p.1 ∧ 0 ≤ p.2) {u : List Nat} : ∀ {rs' : List (List (Int × Int))} {N y : Nat}, (∀ r ∈ rs', r ∈ rs) → (midsP N rs' u y ↔ midsP N rs' (repU (cutsU rs u.length) u) y)
  | [], _, _, _ => Iff.rfl
  | r :: rs', N, y, hs => by
    have hl := repU_len (u := u) (cutsU_len rs u.length)
    unfold midsP
    refine or_congr ?_ (mids_rep hr fun r h => hs r (List.mem_cons_of_mem _ h))
    unfold midP
    rw [hl]
    refine and_congr Iff.rfl ⟨fun ⟨h1, h2, h3⟩ => ⟨h1, h2, ?_⟩, fun ⟨h1, h2, h3⟩ => ⟨h1, h2, ?_⟩⟩
    all_goals
      have key := rep_fit (q := r.take u.length) (cs := cutsU rs u.length) (u := u) (by rw [List.length_take]; omega) (cutsU_len rs u.length) (fun k p c hp hc => by
        unfold cutsU at hc
        rw [List.getElem?_map] at hc
        obtain ⟨k', hk', rfl⟩ := Option.map_eq_some_iff.1 hc
        have hkl := (List.getElem?_eq_some_iff.1 hk').1
        rw [List.length_range] at hkl
        rw [List.getElem?_range hkl] at hk'
        injection hk' with hk'
        subst hk'
        rw [List.getElem?_take_of_lt hkl] at hp
        have hmem : r ∈ rs.filter fun r => decide (u.length < r.length) := List.mem_filter.2 ⟨hs r (List.mem_cons_self ..), decide_eq_true h1⟩
        unfold cutsAt
        constructor <;> refine List.mem_cons_of_mem _ (List.mem_flatMap.2 ⟨r, hmem, ?_⟩) <;> rw [hp] <;> simp) (fun p hp => hr r (hs r (List.mem_cons_self ..)) p (List.mem_of_mem_take hp))
    · exact key.1 h3
    · exact key.2 h3
/-- Rows of characters: a first byte from 192 on, if there are more; the others from 128 up to 191; not too many. -/
structure RowsU (rs : List (List (Int × Int))) : Prop where
  len : ∀ r ∈ rs, 1 ≤ r.length ∧ r.length ≤ 4
  ok : ∀ r ∈ rs, ∀ p ∈ r, 0 ≤ p.1 ∧ 0 ≤ p.2
  lead : ∀ r ∈ rs, 1 < r.length → ∀ p, r[0]? = some p → 192 ≤ p.1
  cont : ∀ r ∈ rs, ∀ (k : Nat) p, 0 < k → r[k]? = some p → 128 ≤ p.1 ∧ p.2 ≤ 191
  few1 : (rs.filter fun r => decide (1 < r.length)).length ≤ 20
  few2 : (rs.filter fun r => decide (2 < r.length)).length ≤ 17
  few3 : (rs.filter fun r => decide (3 < r.length)).length ≤ 7
/-- A first byte, and others behind it. -/
def Shp : List Nat → Prop
  | [] => False
  | c :: t => 192 ≤ c ∧ ∀ d ∈ t, d ≤ 191
theorem fitN_get : ∀ {q : List (Int × Int)} {u : List Nat}, fitN q u → ∀ (k : Nat) p c, q[k]? = some p → u[k]? = some c → p.1 ≤ (c : Int) ∧ (c : Int) ≤ p.2
  | [], [], _, _, _, _, h, _ => by simp at h
  | p :: q, c :: u, h, k, p', c', h1, h2 => by
    cases k with
    | zero =>
      simp at h1 h2
      subst h1 h2
      exact ⟨h.1, h.2.1⟩
    | succ k => exact fitN_get h.2.2 k p' c' (by simpa using h1) (by simpa using h2)
  | [], _ :: _, h, _, _, _, _, _ => h.elim
  | _ :: _, [], h, _, _, _, _, _ => h.elim
theorem mids_shape {rs : List (List (Int × Int))} (hr : RowsU rs) {u : List Nat} : ∀ {rs' : List (List (Int × Int))} {N y : Nat}, (∀ r ∈ rs', r ∈ rs) → midsP N rs' u y → Shp u ∧ u.length ≤ 3
  | [], _, _, _, h => h.elim
  | r :: rs', N, y, hs, h => by
    rcases h with ⟨h1, h2, h3, h4⟩ | h
    · have hrm := hs r (List.mem_cons_self ..)
      have hl := (hr.len r hrm).2
      refine ⟨?_, by omega⟩
      cases u with
      | nil => simp at h1
      | cons c t =>
        rw [List.length_cons] at h2
        have hg : ∀ (k : Nat) p d, r[k]? = some p → (c :: t)[k]? = some d → p.1 ≤ (d : Int) ∧ (d : Int) ≤ p.2 := fun k p d hp hd => fitN_get h4 k p d (by
          rw [List.getElem?_take_of_lt (List.getElem?_eq_some_iff.1 hd).1]
          exact hp) hd
        refine ⟨?_, fun d hd => ?_⟩
        · have h5 := hg 0 r[0] c (List.getElem?_eq_getElem (by omega)) rfl
          have h6 := hr.lead r hrm (by omega) r[0] (List.getElem?_eq_getElem (by omega))
          omega
        · obtain ⟨k, hk⟩ := List.mem_iff_getElem?.1 hd
          have hkl := (List.getElem?_eq_some_iff.1 hk).1
          have h5 := hg (k + 1) r[k + 1] d (List.getElem?_eq_getElem (by omega)) (by simpa using hk)
          have h6 := (hr.cont r hrm (k + 1) r[k + 1] (by omega) (List.getElem?_eq_getElem (by omega))).2
          omega
    · exact mids_shape hr (fun r h => hs r (List.mem_cons_of_mem _ h)) h
theorem shape_one {a b u v : List Nat} (hu : Shp u) (hv : Shp v) (h : a ++ u = b ++ v) : a = b ∧ u = v := by
  have key : ∀ {a b u v : List Nat}, Shp u → Shp v → a ++ u = b ++ v → a.length ≤ b.length → a = b ∧ u = v := by
    intro a b u v hu hv h hl
    obtain ⟨w, rfl⟩ : ∃ w, b = a ++ w := by
      refine ⟨b.drop a.length, ?_⟩
      have h1 := congrArg (List.take a.length) h
      rw [List.take_left', List.take_append_of_le_length hl] at h1
      · have h2 := List.take_append_drop a.length b
        rw [← h1] at h2
        exact h2.symm
      · rfl
    rw [List.append_assoc] at h
    have h := List.append_cancel_left h
    cases w with
    | nil =>
      rw [List.append_nil]
      exact ⟨rfl, h⟩
    | cons c w =>
      exfalso
      rw [h] at hu
      cases v with
      | nil => exact hv.elim
      | cons d v =>
        have h1 := hu.2 d (List.mem_append_right _ (List.mem_cons_self ..))
        have h2 := hv.1
        omega
  rcases Nat.le_total a.length b.length with hl | hl
  · exact key hu hv h hl
  · obtain ⟨h1, h2⟩ := key hv hu h.symm hl
    exact ⟨h1.symm, h2.symm⟩
/-- All texts into the midst that stand for others. -/
def candsU (rs : List (List (Int × Int))) : List (Option (List Nat)) := none :: ((prodL (cutsU rs 1) ++ prodL (cutsU rs 2) ++ prodL (cutsU rs 3)).map some)
theorem candsU_len {rs : List (List (Int × Int))} (hr : RowsU rs) : (candsU rs).length ≤ 4642 := by
  have k : ∀ d m, (rs.filter fun r => decide (d < r.length)).length ≤ m → (prodL (cutsU rs d)).length ≤ (1 + m * 2) ^ d := fun d m h => by
    have h1 := prodL_len (cs := cutsU rs d) (m := 1 + m * 2) fun c hc => by
      unfold cutsU at hc
      obtain ⟨k, _, rfl⟩ := List.mem_map.1 hc
      rw [cutsAt_len]
      omega
    rwa [cutsU_len] at h1
  have k1 := k 1 20 hr.few1
  have k2 := k 2 17 hr.few2
  have k3 := k 3 7 hr.few3
  unfold candsU
  rw [List.length_cons, List.length_map, List.length_append, List.length_append]
  omega
end Go.Proofs.YtclahhkcbkpofaaDoor
/- All rows of a range: how many, which characters. -/
namespace Go.Proofs.YtclahhkcbkpofaaDoor.Sp
theorem part_few {lo hi x y : Int} {m : Nat} (hc : ∀ a b, a ≤ b → x ≤ a → b ≤ y → Cls a b ∧ (rowsP a b).length ≤ m) : (part lo hi x y).length ≤ m := by
  unfold part
  split
  · exact (hc _ _ ‹_› (by omega) (by omega)).2
  · simp
theorem all_len (lo hi : Int) : (allP lo hi).length ≤ 20 := by
  have s1 : ∀ a : Int, a ≤ 127 → szC a ≤ 1 := fun a h => by unfold szC; rw [if_pos (by omega)]; omega
  have s2 : ∀ a : Int, a ≤ 2047 → szC a ≤ 2 := fun a h => by have := sz_cls (lo := a); omega
  have s3 : ∀ a : Int, a ≤ 65535 → szC a ≤ 3 := fun a h => by have := sz_cls (lo := a); omega
  unfold allP
  have l0 : 0 ≤ max lo 0 := by omega
  have h0 : min hi 1114111 ≤ 1114111 := by omega
  generalize max lo 0 = a at *
  generalize min hi 1114111 = b at *
  have p0 := part_few (lo := a) (hi := b) (x := 0) (y := 127) (m := 1) (fun u v h h1 h2 => by
    have k : Cls u v := by unfold Cls; omega
    have := few1 h k
    exact ⟨k, by have := s1 u (by omega); omega⟩)
  have p1 := part_few (lo := a) (hi := b) (x := 128) (y := 2047) (m := 3) (fun u v h h1 h2 => by
    have k : Cls u v := by unfold Cls; omega
    have := few1 h k
    exact ⟨k, by have := s2 u (by omega); omega⟩)
  have p2 := part_few (lo := a) (hi := b) (x := 2048) (y := 55295) (m := 5) (fun u v h h1 h2 => by
    have k : Cls u v := by unfold Cls; omega
    have := few1 h k
    exact ⟨k, by have := s3 u (by omega); omega⟩)
  have p3 := part_few (lo := a) (hi := b) (x := 57344) (y := 65535) (m := 5) (fun u v h h1 h2 => by
    have k : Cls u v := by unfold Cls; omega
    have := few1 h k
    exact ⟨k, by have := s3 u (by omega); omega⟩)
  have p4 : (part a b 65536 1114111).length ≤ 7 := part_few (fun u v h h1 h2 => by
    have k : Cls u v := by unfold Cls; omega
    exact ⟨k, (few1 h k).1⟩)
  have key : (part a b 0 127).length = 0 ∨ (part a b 2048 55295).length = 0 ∨ (part a b 128 2047).length ≤ 1 := by
    by_cases c1 : max a 0 ≤ min b 127
    · by_cases c2 : max a 2048 ≤ min b 55295
      · refine .inr (.inr ?_)
        unfold part
        rw [if_pos (by omega), show max a 128 = 128 by omega, show min b 2047 = 2047 by omega]
        have : (rowsP 128 2047).length = 1 := few_leaf (by decide)
        omega
      · refine .inr (.inl ?_)
        unfold part
        rw [if_neg c2]
        rfl
    · refine .inl ?_
      unfold part
      rw [if_neg c1]
      rfl
  unfold upto
  simp only [List.take_succ_cons, List.take_zero, List.flatten_cons, List.flatten_nil, List.length_append, List.length_nil]
  omega
theorem part_ok {lo hi x y : Int} (hc : ∀ a b, x ≤ a → b ≤ y → Cls a b) : ∀ r ∈ part lo hi x y, rowOk r := by
  unfold part
  split
  · exact rows_ok ‹_› (hc _ _ (by omega) (by omega))
  · intro r hr; simp at hr
theorem all_ok (lo hi : Int) : ∀ r ∈ allP lo hi, rowOk r := by
  unfold allP upto
  intro r hr
  simp only [List.take_succ_cons, List.take_zero, List.flatten_cons, List.flatten_nil, List.mem_append, List.not_mem_nil, or_false] at hr
  rcases hr with h | h | h | h | h
  · exact part_ok (fun a b _ _ => by unfold Cls; omega) r h
  · exact part_ok (fun a b _ _ => by unfold Cls; omega) r h
  · exact part_ok (fun a b _ _ => by unfold Cls; omega) r h
  · exact part_ok (fun a b _ _ => by unfold Cls; omega) r h
  · exact part_ok (fun a b _ _ => by unfold Cls; omega) r h
theorem part_holds {lo hi x y c : Int} (hc : ∀ a b, x ≤ a → b ≤ y → Cls a b) : holdsR (part lo hi x y) (encC c) = inB (max lo x) (min hi y) c := by
  unfold part
  split
  · exact rows_holds ‹_› (hc _ _ (by omega) (by omega))
  · unfold inB holdsR
    rw [if_neg (by omega)]
    rfl
theorem all_holds (lo hi c : Int) (hw : wholeB c = true) : holdsR (allP lo hi) (encC c) = inB lo hi c := by
  have := whole_of hw
  unfold allP upto
  simp only [List.take_succ_cons, List.take_zero, List.flatten_cons, List.flatten_nil, holdsR_append]
  rw [part_holds (fun a b _ _ => by unfold Cls; omega), part_holds (fun a b _ _ => by unfold Cls; omega), part_holds (fun a b _ _ => by unfold Cls; omega), part_holds (fun a b _ _ => by unfold Cls; omega), part_holds (fun a b _ _ => by unfold Cls; omega)]
  have e : holdsR [] (encC c) = 0 := rfl
  rw [e]
  unfold inB
  by_cases h : lo ≤ c ∧ c ≤ hi
  · rw [if_pos h]
    repeat' split
    all_goals omega
  · rw [if_neg h, if_neg (by omega), if_neg (by omega), if_neg (by omega), if_neg (by omega), if_neg (by omega)]
    rfl
end Go.Proofs.YtclahhkcbkpofaaDoor.Sp
