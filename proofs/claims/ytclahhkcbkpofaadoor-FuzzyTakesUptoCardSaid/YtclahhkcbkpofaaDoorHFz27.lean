/- spans.Lead: an arc more (one region that draws its order). -/
import Derived.Test.YtclahhkcbkpofaaDoorHFz25
import Derived.Test.YtclahhkcbkpofaaDoorHFz20
import Derived.Test.YtclahhkcbkpofaaDoorHFz17
namespace Go.Proofs.YtclahhkcbkpofaaDoor
open Go.RowKit Go.Maps
theorem addArc_map {hs : List Lsh} {i : Nat} {x : Lsh} {a : Arc3} {A2 : Option Addr} {c2 : Nat} (hx : hs[i]? = some x) : (hs.set i ⟨⟨x.d.fin, x.d.arcs ++ [a], x.d.free⟩, A2, c2, x.F, x.e⟩).map (·.d) = addArc (hs.map (·.d)) i a := by
  apply List.ext_getElem?
  intro j
  by_cases e : i = j
  · subst e
    rw [addArc_at a (s := x.d) (by rw [List.getElem?_map, hx]; rfl), List.getElem?_map, List.getElem?_set_self (List.getElem?_eq_some_iff.1 hx).1]
    rfl
  · rw [addArc_ne a e, List.getElem?_map, List.getElem?_map, List.getElem?_set_ne e]
set_option linter.unusedVariables false in
set_option maxRecDepth 100000 in
set_option maxHeartbeats 8000000 in
theorem lead_r20 (w W2 : World) (go m cp : Nat) (hs : List Lsh) (HR2 : Hid (LoR w W2 (.slice (some ⟨go, 0, none⟩) m cp) m hs)) (at_ nx : Nat) (hat : at_ < m) (x : Lsh) (HX : Hid (hs[at_]? = some x)) (ma : Nat) (HMA : Hid (x.d.arcs.length = ma)) (hma : ma ≤ 2000000) (xb : Nat) (p : Int × Int) (HXB : Hid (W2.heap[xb]? = some (.cells #[.int .i64 p.1, .int .i64 p.2] 61 (0, 0))))
    (c0 c1 c2 c3 c4 c5 c6 c7 c8 c9 c10 c12 c13 c14 c15 c17 c20 c21 c22 c23 c24 c25 c26 c27 c28 c29 c30 c31 c32 c33 c34 c35 c36 c37 c38 c39 c40 c41 c42 c43 c44 c45 c46 c47 c48 c49 c50 c51 c52 c53 c54 c55 c56 c57 c58 c59 c60 c61 c62 c63 c64 c65 c66 c67 c68 c69 c70 c71 c72 c73 c74 c75 c76 c77 c78 c79 c80 c81 c82 c83 c84 c85 c86 c87 c88 c106 c107 c108 c109 u89 u90 u91 u92 u93 u94 u95 u96 u97 u98 u99 u100 u101 u102 u103 u104 u105 : Value) (Q0 : Exit → Act → World → Prop) (hQ0 : ∀ c (a a' : Act) w, a.defers = a'.defers → Q0 (.panic c) a w → Q0 (.panic c) a' w)
    (hexit : ∀ (g9 cx9 : Nat) (W : World) (u89 u90 u91 u92 u93 u94 u95 u96 u97 u98 u99 u100 u101 u102 u103 u104 u105 : Value), Hid (LoR w W (.slice (some ⟨go, 0, none⟩) m cp) m (hs.set at_ ⟨⟨x.d.fin, x.d.arcs ++ [(p.1, p.2, (nx : Int))], x.d.free⟩, some ⟨g9, 0, none⟩, cx9, x.F, x.e⟩)) → Hid (Keeps W2 W) → Q0 .normal ⟨List.toArray (c0 :: c1 :: c2 :: c3 :: c4 :: c5 :: c6 :: c7 :: c8 :: c9 :: c10 :: .slice (some ⟨go, 0, none⟩) m cp :: c12 :: c13 :: c14 :: c15 :: .int .i64 (at_ : Int) :: c17 :: .pointer (some ⟨xb, 0, none⟩) :: .int .i64 (nx : Int) :: c20 :: c21 :: c22 :: c23 :: c24 :: c25 :: c26 :: c27 :: c28 :: c29 :: c30 :: c31 :: c32 :: c33 :: c34 :: c35 :: c36 :: c37 :: c38 :: c39 :: c40 :: c41 :: c42 :: c43 :: c44 :: c45 :: c46 :: c47 :: c48 :: c49 :: c50 :: c51 :: c52 :: c53 :: c54 :: c55 :: c56 :: c57 :: c58 :: c59 :: c60 :: c61 :: c62 :: c63 :: c64 :: c65 :: c66 :: c67 :: c68 :: c69 :: c70 :: c71 :: c72 :: c73 :: c74 :: c75 :: c76 :: c77 :: c78 :: c79 :: c80 :: c81 :: c82 :: c83 :: c84 :: c85 :: c86 :: c87 :: c88 :: u89 :: u90 :: u91 :: u92 :: u93 :: u94 :: u95 :: u96 :: u97 :: u98 :: u99 :: u100 :: u101 :: u102 :: u103 :: u104 :: u105 :: c106 :: c107 :: c108 :: c109 :: []), []⟩ W) :
    Code.wp Tryd.prog (regOf Tryd.f12 20) Q0 ⟨List.toArray (c0 :: c1 :: c2 :: c3 :: c4 :: c5 :: c6 :: c7 :: c8 :: c9 :: c10 :: .slice (some ⟨go, 0, none⟩) m cp :: c12 :: c13 :: c14 :: c15 :: .int .i64 (at_ : Int) :: c17 :: .pointer (some ⟨xb, 0, none⟩) :: .int .i64 (nx : Int) :: c20 :: c21 :: c22 :: c23 :: c24 :: c25 :: c26 :: c27 :: c28 :: c29 :: c30 :: c31 :: c32 :: c33 :: c34 :: c35 :: c36 :: c37 :: c38 :: c39 :: c40 :: c41 :: c42 :: c43 :: c44 :: c45 :: c46 :: c47 :: c48 :: c49 :: c50 :: c51 :: c52 :: c53 :: c54 :: c55 :: c56 :: c57 :: c58 :: c59 :: c60 :: c61 :: c62 :: c63 :: c64 :: c65 :: c66 :: c67 :: c68 :: c69 :: c70 :: c71 :: c72 :: c73 :: c74 :: c75 :: c76 :: c77 :: c78 :: c79 :: c80 :: c81 :: c82 :: c83 :: c84 :: c85 :: c86 :: c87 :: c88 :: u89 :: u90 :: u91 :: u92 :: u93 :: u94 :: u95 :: u96 :: u97 :: u98 :: u99 :: u100 :: u101 :: u102 :: u103 :: u104 :: u105 :: c106 :: c107 :: c108 :: c109 :: []), []⟩ W2 := by
  have HSK : Hid (∀ W', Below W2.heap.size W2 W' → W'.cell? ⟨xb, 0, none⟩ = some (.int .i64 p.1) ∧ W'.cell? ⟨xb, 1, none⟩ = some (.int .i64 p.2)) := fun W' hb => by
    have h1 := (hb.block xb (Array.getElem?_eq_some_iff.1 HXB.out).1).trans HXB.out
    exact ⟨cell_of_row _ xb 0 _ _ (0, 0) h1, cell_of_row _ xb 1 _ _ (0, 0) h1⟩
  have hxo1 := HR2.out.ar.own x.arow (List.mem_map.2 ⟨x, List.mem_of_getElem? HX.out, rfl⟩)
  have HSG : Hid (∀ W', Below W2.heap.size W2 W' → ∀ W'', W'.grownBy W'' (Value.slice x.A ma x.c).ownBlock → W''.cell? ⟨xb, 0, none⟩ = some (.int .i64 p.1) ∧ W''.cell? ⟨xb, 1, none⟩ = some (.int .i64 p.2)) := fun W' hb' W'' hg' => by
    have h1 := (hb'.block xb (Array.getElem?_eq_some_iff.1 HXB.out).1).trans HXB.out
    have hne : some xb ≠ (Value.slice x.A ma x.c).ownBlock := fun e => by
      have h2 := row_not_cells hxo1 HXB.out (by decide)
      have h3 : (Value.slice x.A x.d.arcs.length x.c).ownBlock = some xb := by rw [HMA.out]; exact e.symm
      rcases h2 with h2 | h2
      · have h2 : (Value.slice x.A x.d.arcs.length x.c).ownBlock = none := h2
        rw [h3] at h2; cases h2
      · exact h2 h3
    have h4 := (hg'.block xb (Array.getElem?_eq_some_iff.1 h1).1 hne).trans h1
    exact ⟨cell_of_row _ xb 0 _ _ (0, 0) h4, cell_of_row _ xb 1 _ _ (0, 0) h4⟩
  have hgo : go ≠ xb := fun e => by
    obtain ⟨_, _, cs, h1⟩ := own_blk HR2.out.out
    rw [e, HXB.out] at h1
    injection h1 with h1
    injection h1 with _ h1 _
    exact absurd h1 (by decide)
  have HSS : Hid (∀ (W' : World) (u : Value), (W'.cell? ⟨xb, 0, none⟩ = some (.int .i64 p.1) ∧ W'.cell? ⟨xb, 1, none⟩ = some (.int .i64 p.2)) → (W'.setCell ⟨go, at_ * 3 + 1, none⟩ u).cell? ⟨xb, 0, none⟩ = some (.int .i64 p.1) ∧ (W'.setCell ⟨go, at_ * 3 + 1, none⟩ u).cell? ⟨xb, 1, none⟩ = some (.int .i64 p.2)) := fun W' u h => by
    have k : ∀ j, (W'.setCell ⟨go, at_ * 3 + 1, none⟩ u).cell? ⟨xb, j, none⟩ = W'.cell? ⟨xb, j, none⟩ := fun j => World.cell?_of_block (w := W') (Below.heap_setCell _ _ _ xb (fun e => hgo (by simpa using e.symm)))
    exact ⟨(k 0).trans h.1, (k 1).trans h.2⟩
  obtain ⟨_, k1, _⟩ := lo_cell HR2.out.out HX.out
  rw [HMA.out] at k1
  have hgow := (own_blk HR2.out.out).2.1
  have hxw := (Array.getElem?_eq_some_iff.1 HXB.out).1
  have hat2 : (at_ : Int) < (m : Int) := by omega
  clear hxo1
  conv => arg 2; whnf
  refine wp_region_held_drew (S := fun w' => w'.cell? ⟨xb, 0, none⟩ = some (.int .i64 p.1) ∧ w'.cell? ⟨xb, 1, none⟩ = some (.int .i64 p.2)) (by kernel_rfl) ?_ (fun hHeld => ?_)
  · (try dsimp only); exact HSK.out _ ((Below.drew (brefl W2)))
  refine wpAnyH_take (i := 0) (v := ?_) rfl (by kernel_rfl) (by kernel_rfl) (by kernel_rfl) (fun c _ w h => hQ0 c _ _ w (by rfl) h) (Or.inl ⟨by rfl, ?_⟩) (by assumption) ?_
  rotate_left
  · intro w hSw; (try dsimp only at hSw); go_simp; (try with_reducible rfl)
  try simp only [Act.put, List.setIfInBounds_toArray]
  refine wpAnyH_take (i := 1) (v := ?_) rfl (by kernel_rfl) (by kernel_rfl) (by kernel_rfl) (fun c _ w h => hQ0 c _ _ w (by rfl) h) (Or.inl ⟨by rfl, ?_⟩) (by assumption) ?_
  rotate_left
  · intro w hSw; (try dsimp only at hSw); go_simp; (try with_reducible rfl)
  try simp only [Act.put]
  refine wpAnyH_take (i := 2) (v := ?_) rfl (by kernel_rfl) (by kernel_rfl) (by kernel_rfl) (fun c _ w h => hQ0 c _ _ w (by rfl) h) (Or.inl ⟨by rfl, ?_⟩) (by assumption) ?_
  rotate_left
  · intro w hSw; (try dsimp only at hSw); go_simp; (try with_reducible rfl)
  try simp only [Act.put]
  refine wpAnyH_take (i := 3) (v := ?_) rfl (by kernel_rfl) (by kernel_rfl) (by kernel_rfl) (fun c _ w h => hQ0 c _ _ w (by rfl) h) (Or.inl ⟨by rfl, ?_⟩) (by assumption) ?_
  rotate_left
  · intro w hSw; (try dsimp only at hSw); go_simp; (try with_reducible rfl)
  try simp only [Act.put]
  refine wpAnyH_take (i := 4) (v := ?_) rfl (by kernel_rfl) (by kernel_rfl) (by kernel_rfl) (fun c _ w h => hQ0 c _ _ w (by rfl) h) (Or.inl ⟨by rfl, ?_⟩) (by assumption) ?_
  rotate_left
  · intro w hSw; (try dsimp only at hSw); go_simp; (try with_reducible rfl)
  try simp only [Act.put]
  refine wpAnyH_take (i := 5) (v := ?_) rfl (by kernel_rfl) (by kernel_rfl) (by kernel_rfl) (fun c _ w h => hQ0 c _ _ w (by rfl) h) (Or.inl ⟨by rfl, ?_⟩) (by assumption) ?_
  rotate_left
  · intro w hSw; (try dsimp only at hSw); go_simp; (try with_reducible rfl)
  try simp only [Act.put]
  refine wpAnyH_take (i := 7) (v := ?_) rfl (by kernel_rfl) (by kernel_rfl) (by kernel_rfl) (fun c _ w h => hQ0 c _ _ w (by rfl) h) (Or.inl ⟨by rfl, ?_⟩) (by assumption) ?_
  rotate_left
  · intro w hSw; (try dsimp only at hSw); go_simp; (try with_reducible rfl)
  try simp only [Act.put]
  refine wpAnyH_take (i := 8) (v := ?_) rfl (by kernel_rfl) (by kernel_rfl) (by kernel_rfl) (fun c _ w h => hQ0 c _ _ w (by rfl) h) (Or.inl ⟨by rfl, ?_⟩) (by assumption) ?_
  rotate_left
  · intro w hSw; (try dsimp only at hSw); go_simp; (try with_reducible rfl)
  try simp only [Act.put]
  refine wpAnyH_take (i := 9) (v := ?_) rfl (by kernel_rfl) (by kernel_rfl) (by kernel_rfl) (fun c _ w h => hQ0 c _ _ w (by rfl) h) (Or.inl ⟨by rfl, ?_⟩) (by assumption) ?_
  rotate_left
  · intro w hSw; (try dsimp only at hSw); go_simp; (try with_reducible rfl)
  try simp only [Act.put]
  refine wpAnyH_take (i := 10) (v := ?_) rfl (by kernel_rfl) (by kernel_rfl) (by kernel_rfl) (fun c _ w h => hQ0 c _ _ w (by rfl) h) (Or.inl ⟨by rfl, ?_⟩) (by assumption) ?_
  rotate_left
  · intro w hSw; (try dsimp only at hSw); go_simp; (try with_reducible rfl)
  try simp only [Act.put]
  refine wpAnyH_take (i := 11) (v := ?_) rfl (by kernel_rfl) (by kernel_rfl) (by kernel_rfl) (fun c _ w h => hQ0 c _ _ w (by rfl) h) (Or.inl ⟨by rfl, ?_⟩) (by assumption) ?_
  rotate_left
  · intro w hSw; (try dsimp only at hSw); go_simp; (try with_reducible rfl)
  try simp only [Act.put]
  refine wpAnyH_take (i := 12) (v := ?_) rfl (by kernel_rfl) (by kernel_rfl) (by kernel_rfl) (fun c _ w h => hQ0 c _ _ w (by rfl) h) (Or.inl ⟨by rfl, ?_⟩) (by assumption) ?_
  rotate_left
  · intro w hSw; (try dsimp only at hSw); go_simp; (try with_reducible rfl)
  try simp only [Act.put]
  refine wpAnyH_ready (rs := [6, 13]) (by kernel_rfl) (by simp) ?_
  refine AllReadyH.cons rfl (fun K hK => ?_) (AllReadyH.cons rfl (fun K hK => ?_) (AllReadyH.nil))
  · skip
    go_simp
    refine hK.out _ _ ?_ (fun hHeld => ?_)
    · (try dsimp only); exact HSK.out _ ((Below.drew (brefl W2)))
    clear hK K
    try simp only [Act.put, List.setIfInBounds_toArray, List.set_cons_zero, List.set_cons_succ]
    refine wpAnyH_ready (rs := [13]) (by kernel_rfl) (by simp) ?_
    refine AllReadyH.cons rfl (fun K hK => ?_) (AllReadyH.nil)
    go_simp
    refine hK.out _ _ ?_ (fun hHeld => ?_)
    · (try dsimp only); exact HSK.out _ ((bnew (Below.drew (brefl W2)) (.cells #[.int .i64 p.1, .int .i64 p.2, .int .i64 (nx : Int)] 63)))
    clear hK K
    try simp only [Act.put, List.setIfInBounds_toArray, List.set_cons_zero, List.set_cons_succ]
    refine wpAnyH_ready (rs := [14]) (by kernel_rfl) (by simp) ?_
    refine AllReadyH.cons rfl (fun K hK => ?_) (AllReadyH.nil)
    have HRX := Lib.hid (HR2.out.keep (bnew (Below.drew (brefl W2)) (.cells #[.int .i64 p.1, .int .i64 p.2, .int .i64 (nx : Int)] 63)))
    have hxo := HRX.out.ar.own x.arow (List.mem_map.2 ⟨x, List.mem_of_getElem? HX.out, rfl⟩)
    have HXO : Hid (World.ownsRow (W2.drew.alloc (.cells #[.int .i64 p.1, .int .i64 p.2, .int .i64 (nx : Int)] 63)) w.heap.size 63 3 (.slice x.A ma x.c) ma (arcsC x.d.arcs)) := by rw [← HMA.out]; exact hxo
    clear hxo
    refine step_pushg _ _ (by rfl) (.tmp 95) (.tmp 102) _ (by rfl) el_arc _ _ _ (by rfl) HXO.out (m := 1) (by rfl) (heap_alloc_new _ _) (by rfl) (by simp [Value.oneCell']) (by omega) (by unfold maxLen; omega) (by omega) HRX.out.bel.size ?_
    intro g9 cx9 w9 hown9 hg9 hm9
    have HARC := Lib.hid (HRX.out.arc (a := (p.1, p.2, (nx : Int))) (A2 := some ⟨g9, 0, none⟩) (c2 := cx9) HX.out (by rw [HMA.out]; exact hg9) (by rw [HMA.out]; exact hown9) (by rw [HMA.out]; exact hm9.elim (fun h => .inl h.symm) fun h => .inr ⟨g9, rfl, h⟩))
    rw [HMA.out] at HARC
    obtain ⟨HLN, t1, t2, t3, hkp⟩ := HARC.out
    have HKP := Lib.hid (Keeps.trans (Keeps.below (Below.mono (bnew (Below.drew (brefl W2)) (.cells #[.int .i64 p.1, .int .i64 p.2, .int .i64 (nx : Int)] 63)) (Nat.le_refl _))) hkp)
    have HLN9 := Lib.hid HLN
    have HSK9 : Hid (w9.cell? ⟨xb, 0, none⟩ = some (.int .i64 p.1) ∧ w9.cell? ⟨xb, 1, none⟩ = some (.int .i64 p.2)) := HSG.out _ (bnew (Below.drew (brefl W2)) (.cells #[.int .i64 p.1, .int .i64 p.2, .int .i64 (nx : Int)] 63)) _ hg9
    clear hown9 hm9 HARC HLN hg9 hkp
    refine hK.out _ _ ?_ (fun hHeld => ?_)
    · (try dsimp only); exact HSK9.out
    clear hK K
    try simp only [Act.put, List.setIfInBounds_toArray]
    refine wpAnyH_take (i := 15) (v := ?_) rfl (by kernel_rfl) (by kernel_rfl) (by kernel_rfl) (fun c _ w h => hQ0 c _ _ w (by rfl) h) (Or.inl ⟨by rfl, ?_⟩) (by assumption) ?_
    rotate_left
    · intro w hSw; (try dsimp only at hSw); go_simp; (try with_reducible rfl)
    try simp only [Act.put]
    refine wpAnyH_take (i := 16) (v := ?_) rfl (by kernel_rfl) (by kernel_rfl) (by kernel_rfl) (fun c _ w h => hQ0 c _ _ w (by rfl) h) (Or.inl ⟨by rfl, ?_⟩) (by assumption) ?_
    rotate_left
    · intro w hSw; (try dsimp only at hSw); go_simp; (try with_reducible rfl)
    try simp only [Act.put]
    refine wpAnyH_ready (rs := [17]) (by kernel_rfl) (by simp) ?_
    refine AllReadyH.cons rfl (fun K hK => ?_) (AllReadyH.nil)
    go_simp
    refine hK.out _ _ ?_ (fun hHeld => ?_)
    · (try dsimp only); exact HSS.out _ _ HSK9.out
    clear hK K
    try simp only [Act.put, List.setIfInBounds_toArray, List.set_cons_zero, List.set_cons_succ]
    refine wpAnyH_done (by kernel_rfl) ?_ _
    exact hexit g9 cx9 _ _ _ _ _ _ _ _ _ _ _ _ _ _ _ _ _ _ HLN9 HKP
  · skip
    go_simp
    refine hK.out _ _ ?_ (fun hHeld => ?_)
    · (try dsimp only); exact HSK.out _ ((bnew (Below.drew (brefl W2)) (.cells #[.int .i64 p.1, .int .i64 p.2, .int .i64 (nx : Int)] 63)))
    clear hK K
    try simp only [Act.put, List.setIfInBounds_toArray, List.set_cons_zero, List.set_cons_succ]
    refine wpAnyH_ready (rs := [6]) (by kernel_rfl) (by simp) ?_
    refine AllReadyH.cons rfl (fun K hK => ?_) (AllReadyH.nil)
    go_simp
    refine hK.out _ _ ?_ (fun hHeld => ?_)
    · (try dsimp only); exact HSK.out _ ((bnew (Below.drew (brefl W2)) (.cells #[.int .i64 p.1, .int .i64 p.2, .int .i64 (nx : Int)] 63)))
    clear hK K
    try simp only [Act.put, List.setIfInBounds_toArray, List.set_cons_zero, List.set_cons_succ]
    refine wpAnyH_ready (rs := [14]) (by kernel_rfl) (by simp) ?_
    refine AllReadyH.cons rfl (fun K hK => ?_) (AllReadyH.nil)
    have HRX := Lib.hid (HR2.out.keep (bnew (Below.drew (brefl W2)) (.cells #[.int .i64 p.1, .int .i64 p.2, .int .i64 (nx : Int)] 63)))
    have hxo := HRX.out.ar.own x.arow (List.mem_map.2 ⟨x, List.mem_of_getElem? HX.out, rfl⟩)
    have HXO : Hid (World.ownsRow (W2.drew.alloc (.cells #[.int .i64 p.1, .int .i64 p.2, .int .i64 (nx : Int)] 63)) w.heap.size 63 3 (.slice x.A ma x.c) ma (arcsC x.d.arcs)) := by rw [← HMA.out]; exact hxo
    clear hxo
    refine step_pushg _ _ (by rfl) (.tmp 95) (.tmp 102) _ (by rfl) el_arc _ _ _ (by rfl) HXO.out (m := 1) (by rfl) (heap_alloc_new _ _) (by rfl) (by simp [Value.oneCell']) (by omega) (by unfold maxLen; omega) (by omega) HRX.out.bel.size ?_
    intro g9 cx9 w9 hown9 hg9 hm9
    have HARC := Lib.hid (HRX.out.arc (a := (p.1, p.2, (nx : Int))) (A2 := some ⟨g9, 0, none⟩) (c2 := cx9) HX.out (by rw [HMA.out]; exact hg9) (by rw [HMA.out]; exact hown9) (by rw [HMA.out]; exact hm9.elim (fun h => .inl h.symm) fun h => .inr ⟨g9, rfl, h⟩))
    rw [HMA.out] at HARC
    obtain ⟨HLN, t1, t2, t3, hkp⟩ := HARC.out
    have HKP := Lib.hid (Keeps.trans (Keeps.below (Below.mono (bnew (Below.drew (brefl W2)) (.cells #[.int .i64 p.1, .int .i64 p.2, .int .i64 (nx : Int)] 63)) (Nat.le_refl _))) hkp)
    have HLN9 := Lib.hid HLN
    have HSK9 : Hid (w9.cell? ⟨xb, 0, none⟩ = some (.int .i64 p.1) ∧ w9.cell? ⟨xb, 1, none⟩ = some (.int .i64 p.2)) := HSG.out _ (bnew (Below.drew (brefl W2)) (.cells #[.int .i64 p.1, .int .i64 p.2, .int .i64 (nx : Int)] 63)) _ hg9
    clear hown9 hm9 HARC HLN hg9 hkp
    refine hK.out _ _ ?_ (fun hHeld => ?_)
    · (try dsimp only); exact HSK9.out
    clear hK K
    try simp only [Act.put, List.setIfInBounds_toArray]
    refine wpAnyH_take (i := 15) (v := ?_) rfl (by kernel_rfl) (by kernel_rfl) (by kernel_rfl) (fun c _ w h => hQ0 c _ _ w (by rfl) h) (Or.inl ⟨by rfl, ?_⟩) (by assumption) ?_
    rotate_left
    · intro w hSw; (try dsimp only at hSw); go_simp; (try with_reducible rfl)
    try simp only [Act.put]
    refine wpAnyH_take (i := 16) (v := ?_) rfl (by kernel_rfl) (by kernel_rfl) (by kernel_rfl) (fun c _ w h => hQ0 c _ _ w (by rfl) h) (Or.inl ⟨by rfl, ?_⟩) (by assumption) ?_
    rotate_left
    · intro w hSw; (try dsimp only at hSw); go_simp; (try with_reducible rfl)
    try simp only [Act.put]
    refine wpAnyH_ready (rs := [17]) (by kernel_rfl) (by simp) ?_
    refine AllReadyH.cons rfl (fun K hK => ?_) (AllReadyH.nil)
    go_simp
    refine hK.out _ _ ?_ (fun hHeld => ?_)
    · (try dsimp only); exact HSS.out _ _ HSK9.out
    clear hK K
    try simp only [Act.put, List.setIfInBounds_toArray, List.set_cons_zero, List.set_cons_succ]
    refine wpAnyH_done (by kernel_rfl) ?_ _
    exact hexit g9 cx9 _ _ _ _ _ _ _ _ _ _ _ _ _ _ _ _ _ _ HLN9 HKP
end Go.Proofs.YtclahhkcbkpofaaDoor
