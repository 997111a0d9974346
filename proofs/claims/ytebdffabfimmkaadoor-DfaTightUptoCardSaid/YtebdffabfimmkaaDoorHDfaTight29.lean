/- The reference's Both: where a byte leads from a pair (one region that draws its order). -/
import Derived.Test.YtebdffabfimmkaaDoorHDfaTight28
import Derived.Test.YtebdffabfimmkaaDoorHDfaTight14
import Derived.Deep.RegionHeld3
import Derived.Test.YtebdffabfimmkaaDoorHDfaTight21
namespace Go.Proofs.YtebdffabfimmkaaDoor
open Go.RowKit Go.Maps

set_option linter.unusedVariables false in
set_option maxRecDepth 100000 in
set_option maxHeartbeats 8000000 in
theorem both_r15 (W0 : World) (B : Nat) (hB : B ≤ W0.heap.size) (A : Option Addr) (n c : Nat) (H : List Sh) (HS : Hid (StsIn W0 B A n c H)) (A' : Option Addr) (n' c' : Nat) (H' : List Sh) (HS' : Hid (StsIn W0 B A' n' c' H')) (pp u v ch : Nat) (HP : Hid (W0.heap[pp]? = some (.cells #[.int .i64 (u : Int), .int .i64 (v : Int)] 76 (0, 0))))
    (c2 c3 c4 c5 c6 c7 c8 c9 c10 c12 c15 c16 c17 c18 c19 c20 c21 c22 c23 c24 c25 c26 c27 c28 c29 c30 c31 c32 c33 c34 c35 c36 c37 c38 c39 c40 c41 c42 c43 c44 c45 c46 c47 c48 c49 c50 c51 c52 c53 c54 c55 c56 c57 c58 c70 c71 c72 c73 c74 c75 c76 c77 c78 c79 c80 c81 c82 c83 c84 c85 c86 c87 c88 c89 c90 c91 c92 c93 c94 c95 c96 c97 c98 c99 c100 c101 c102 c103 c104 c105 c106 c107 c108 c109 c110 c111 u14 u59 u60 u61 u62 u63 u64 u65 u66 u67 u68 u69 : Value) (Q0 : Exit → Act → World → Prop) (hQ0 : ∀ c (a a' : Act) w, a.defers = a'.defers → Q0 (.panic c) a w → Q0 (.panic c) a' w)
    (hexit : ∀ (qb : Nat) (W : World) (u59 u60 u61 u62 u63 u64 u65 u66 u67 u68 u69 : Value), Hid (W.heap[qb]? = some (.cells #[.int .i64 (stepI (H.map (·.d)) (u : Int) (ch : Int)), .int .i64 (stepI (H'.map (·.d)) (v : Int) (ch : Int))] 76 (0, 0))) → Hid (Below W0.heap.size W0 W) → Hid (W0.heap.size ≤ qb) → Q0 .normal ⟨List.toArray (.slice A n c :: .slice A' n' c' :: c2 :: c3 :: c4 :: c5 :: c6 :: c7 :: c8 :: c9 :: c10 :: .pointer (some ⟨pp, 0, none⟩) :: c12 :: .int .i64 (ch : Int) :: .pointer (some ⟨qb, 0, none⟩) :: c15 :: c16 :: c17 :: c18 :: c19 :: c20 :: c21 :: c22 :: c23 :: c24 :: c25 :: c26 :: c27 :: c28 :: c29 :: c30 :: c31 :: c32 :: c33 :: c34 :: c35 :: c36 :: c37 :: c38 :: c39 :: c40 :: c41 :: c42 :: c43 :: c44 :: c45 :: c46 :: c47 :: c48 :: c49 :: c50 :: c51 :: c52 :: c53 :: c54 :: c55 :: c56 :: c57 :: c58 :: u59 :: u60 :: u61 :: u62 :: u63 :: u64 :: u65 :: u66 :: u67 :: u68 :: u69 :: c70 :: c71 :: c72 :: c73 :: c74 :: c75 :: c76 :: c77 :: c78 :: c79 :: c80 :: c81 :: c82 :: c83 :: c84 :: c85 :: c86 :: c87 :: c88 :: c89 :: c90 :: c91 :: c92 :: c93 :: c94 :: c95 :: c96 :: c97 :: c98 :: c99 :: c100 :: c101 :: c102 :: c103 :: c104 :: c105 :: c106 :: c107 :: c108 :: c109 :: c110 :: c111 :: []), []⟩ W) :
    Code.wp Tryd.prog (regOf Tryd.f22 15) Q0 ⟨List.toArray (.slice A n c :: .slice A' n' c' :: c2 :: c3 :: c4 :: c5 :: c6 :: c7 :: c8 :: c9 :: c10 :: .pointer (some ⟨pp, 0, none⟩) :: c12 :: .int .i64 (ch : Int) :: u14 :: c15 :: c16 :: c17 :: c18 :: c19 :: c20 :: c21 :: c22 :: c23 :: c24 :: c25 :: c26 :: c27 :: c28 :: c29 :: c30 :: c31 :: c32 :: c33 :: c34 :: c35 :: c36 :: c37 :: c38 :: c39 :: c40 :: c41 :: c42 :: c43 :: c44 :: c45 :: c46 :: c47 :: c48 :: c49 :: c50 :: c51 :: c52 :: c53 :: c54 :: c55 :: c56 :: c57 :: c58 :: u59 :: u60 :: u61 :: u62 :: u63 :: u64 :: u65 :: u66 :: u67 :: u68 :: u69 :: c70 :: c71 :: c72 :: c73 :: c74 :: c75 :: c76 :: c77 :: c78 :: c79 :: c80 :: c81 :: c82 :: c83 :: c84 :: c85 :: c86 :: c87 :: c88 :: c89 :: c90 :: c91 :: c92 :: c93 :: c94 :: c95 :: c96 :: c97 :: c98 :: c99 :: c100 :: c101 :: c102 :: c103 :: c104 :: c105 :: c106 :: c107 :: c108 :: c109 :: c110 :: c111 :: []), []⟩ W0 := by
  have p0 : W0.cell? ⟨pp, 0, none⟩ = some (.int .i64 (u : Int)) := cell_of_row _ pp 0 _ _ (0, 0) HP.out
  have p1 : W0.cell? ⟨pp, 1, none⟩ = some (.int .i64 (v : Int)) := cell_of_row _ pp 1 _ _ (0, 0) HP.out
  have HSK : Hid (∀ W', Below W0.heap.size W0 W' → W'.cell? ⟨pp, 0, none⟩ = some (.int .i64 (u : Int)) ∧ W'.cell? ⟨pp, 1, none⟩ = some (.int .i64 (v : Int))) := fun W' hb => ⟨(hb.cell (p := ⟨pp, 0, none⟩) (Array.getElem?_eq_some_iff.1 HP.out).1).trans p0, (hb.cell (p := ⟨pp, 1, none⟩) (Array.getElem?_eq_some_iff.1 HP.out).1).trans p1⟩
  conv => arg 2; whnf
  have HB0 : Hid (Below W0.heap.size W0 W0.drew) := Below.drew (brefl _)
  refine wp_region_held_drew (S := fun w' => w'.cell? ⟨pp, 0, none⟩ = some (.int .i64 (u : Int)) ∧ w'.cell? ⟨pp, 1, none⟩ = some (.int .i64 (v : Int))) (by kernel_rfl) ?_ (fun hHeld => ?_)
  · (try dsimp only); first | assumption | exact ⟨p0, p1⟩ | exact HSK.out _ HB9.out | exact HSK.out _ HB2.out | exact HSK.out _ (bnew HB2.out _) | exact HSK.out _ HB1.out | exact HSK.out _ (bnew HB1.out _) | exact HSK.out _ HB0.out | exact HSK.out _ (bnew HB0.out _)
  refine wpAnyH_take (i := 0) (v := ?_) rfl (by kernel_rfl) (by kernel_rfl) (by kernel_rfl) (fun c _ w h => hQ0 c _ _ w (by rfl) h) (Or.inl ⟨by rfl, ?_⟩) (by assumption) ?_
  rotate_left
  · intro w hSw; (try dsimp only at hSw); go_simp; (try with_reducible rfl)
  try simp only [Act.put, List.setIfInBounds_toArray]
  refine wpAnyH_take (i := 1) (v := ?_) rfl (by kernel_rfl) (by kernel_rfl) (by kernel_rfl) (fun c _ w h => hQ0 c _ _ w (by rfl) h) (Or.inl ⟨by rfl, ?_⟩) (by assumption) ?_
  rotate_left
  · intro w hSw; (try dsimp only at hSw); go_simp; (try with_reducible rfl)
  try simp only [Act.put]
  refine wpAnyH_take (i := 2) (v := ?_) rfl (by kernel_rfl) (by kernel_rfl) (by kernel_rfl) (fun c _ w h => hQ0 c _ _ w (by rfl) h) (Or.inl ⟨by rfl, ?_⟩) (by assumption) ?_
  rotate_left
  · intro w hSw; (try dsimp only at hSw); go_simp; (try with_reducible rfl)
  try simp only [Act.put]
  refine wpAnyH_take (i := 3) (v := ?_) rfl (by kernel_rfl) (by kernel_rfl) (by kernel_rfl) (fun c _ w h => hQ0 c _ _ w (by rfl) h) (Or.inl ⟨by rfl, ?_⟩) (by assumption) ?_
  rotate_left
  · intro w hSw; (try dsimp only at hSw); go_simp; (try with_reducible rfl)
  try simp only [Act.put]
  refine wpAnyH_take (i := 5) (v := ?_) rfl (by kernel_rfl) (by kernel_rfl) (by kernel_rfl) (fun c _ w h => hQ0 c _ _ w (by rfl) h) (Or.inl ⟨by rfl, ?_⟩) (by assumption) ?_
  rotate_left
  · intro w hSw; (try dsimp only at hSw); go_simp; (try with_reducible rfl)
  try simp only [Act.put]
  refine wpAnyH_take (i := 6) (v := ?_) rfl (by kernel_rfl) (by kernel_rfl) (by kernel_rfl) (fun c _ w h => hQ0 c _ _ w (by rfl) h) (Or.inl ⟨by rfl, ?_⟩) (by assumption) ?_
  rotate_left
  · intro w hSw; (try dsimp only at hSw); go_simp; (try with_reducible rfl)
  try simp only [Act.put]
  refine wpAnyH_take (i := 7) (v := ?_) rfl (by kernel_rfl) (by kernel_rfl) (by kernel_rfl) (fun c _ w h => hQ0 c _ _ w (by rfl) h) (Or.inl ⟨by rfl, ?_⟩) (by assumption) ?_
  rotate_left
  · intro w hSw; (try dsimp only at hSw); go_simp; (try with_reducible rfl)
  try simp only [Act.put]
  refine wpAnyH_take (i := 8) (v := ?_) rfl (by kernel_rfl) (by kernel_rfl) (by kernel_rfl) (fun c _ w h => hQ0 c _ _ w (by rfl) h) (Or.inl ⟨by rfl, ?_⟩) (by assumption) ?_
  rotate_left
  · intro w hSw; (try dsimp only at hSw); go_simp; (try with_reducible rfl)
  try simp only [Act.put]
  refine wpAnyH_ready (rs := [4, 11]) (by kernel_rfl) (by simp) ?_
  refine AllReadyH.cons rfl (fun K hK => ?_) (AllReadyH.cons rfl (fun K hK => ?_) (AllReadyH.nil))
  · skip
    go_simp
    go_at_call 14
    refine (rstep_any _ B (Nat.le_trans hB (HB0.out).size) A n c H (HS.out.keep (Below.mono (HB0.out) hB) (Nat.le_refl _)) (u : Int) (ch : Int)).mono ?_
    rintro e w1 ⟨rfl, hb⟩
    have HB1 := Lib.hid (bcall (HB0.out) hb)
    clear hb
    refine hK.out _ _ ?_ (fun hHeld => ?_)
    · (try dsimp only); first | assumption | exact ⟨p0, p1⟩ | exact HSK.out _ HB9.out | exact HSK.out _ HB2.out | exact HSK.out _ (bnew HB2.out _) | exact HSK.out _ HB1.out | exact HSK.out _ (bnew HB1.out _) | exact HSK.out _ HB0.out | exact HSK.out _ (bnew HB0.out _)
    clear hK K
    try simp only [Act.put, List.setIfInBounds_toArray, List.set_cons_zero, List.set_cons_succ]
    refine wpAnyH_ready (rs := [9, 11]) (by kernel_rfl) (by simp) ?_
    refine AllReadyH.cons rfl (fun K hK => ?_) (AllReadyH.cons rfl (fun K hK => ?_) (AllReadyH.nil))
    · skip
      go_simp
      go_at_call 14
      refine (rstep_any _ B (Nat.le_trans hB (HB1.out).size) A' n' c' H' (HS'.out.keep (Below.mono (HB1.out) hB) (Nat.le_refl _)) (v : Int) (ch : Int)).mono ?_
      rintro e w2 ⟨rfl, hb⟩
      have HB2 := Lib.hid (bcall (HB1.out) hb)
      clear hb
      refine hK.out _ _ ?_ (fun hHeld => ?_)
      · (try dsimp only); first | assumption | exact ⟨p0, p1⟩ | exact HSK.out _ HB9.out | exact HSK.out _ HB2.out | exact HSK.out _ (bnew HB2.out _) | exact HSK.out _ HB1.out | exact HSK.out _ (bnew HB1.out _) | exact HSK.out _ HB0.out | exact HSK.out _ (bnew HB0.out _)
      clear hK K
      try simp only [Act.put, List.setIfInBounds_toArray, List.set_cons_zero, List.set_cons_succ]
      refine wpAnyH_take (i := 10) (v := ?_) rfl (by kernel_rfl) (by kernel_rfl) (by kernel_rfl) (fun c _ w h => hQ0 c _ _ w (by rfl) h) (Or.inl ⟨by rfl, ?_⟩) (by assumption) ?_
      rotate_left
      · intro w hSw; (try dsimp only at hSw); go_simp; (try with_reducible rfl)
      try simp only [Act.put, List.setIfInBounds_toArray]
      refine wpAnyH_ready (rs := [11]) (by kernel_rfl) (by simp) ?_
      refine AllReadyH.cons rfl (fun K hK => ?_) (AllReadyH.nil)
      go_simp
      refine hK.out _ _ ?_ (fun hHeld => ?_)
      · (try dsimp only); first | assumption | exact ⟨p0, p1⟩ | exact HSK.out _ HB9.out | exact HSK.out _ HB2.out | exact HSK.out _ (bnew HB2.out _) | exact HSK.out _ HB1.out | exact HSK.out _ (bnew HB1.out _) | exact HSK.out _ HB0.out | exact HSK.out _ (bnew HB0.out _)
      clear hK K
      try simp only [Act.put, List.setIfInBounds_toArray, List.set_cons_zero, List.set_cons_succ]
      refine wpAnyH_ready (rs := [12]) (by kernel_rfl) (by simp) ?_
      refine AllReadyH.cons rfl (fun K hK => ?_) (AllReadyH.nil)
      go_simp
      refine hK.out _ _ ?_ (fun hHeld => ?_)
      · (try dsimp only); first | assumption | exact ⟨p0, p1⟩ | exact HSK.out _ HB9.out | exact HSK.out _ HB2.out | exact HSK.out _ (bnew HB2.out _) | exact HSK.out _ HB1.out | exact HSK.out _ (bnew HB1.out _) | exact HSK.out _ HB0.out | exact HSK.out _ (bnew HB0.out _)
      clear hK K
      try simp only [Act.put, List.setIfInBounds_toArray, List.set_cons_zero, List.set_cons_succ]
      refine wpAnyH_done (by kernel_rfl) ?_ _
      have HZ : Hid ((w2.alloc (.cells #[.int .i64 (stepI (H.map (·.d)) (u : Int) (ch : Int)), .int .i64 (stepI (H'.map (·.d)) (v : Int) (ch : Int))] 76)).heap[w2.heap.size]? = _) := heap_alloc_new w2 _
      exact hexit _ _ _ _ _ _ _ _ _ _ _ _ _ HZ (bnew HB2.out _) HB2.out.size
    · skip
      have hqlo : Hid (W0.heap.size ≤ w1.heap.size) := HB1.out.size
      go_simp
      refine hK.out _ _ ?_ (fun hHeld => ?_)
      · (try dsimp only); first | assumption | exact ⟨p0, p1⟩ | exact HSK.out _ HB9.out | exact HSK.out _ HB2.out | exact HSK.out _ (bnew HB2.out _) | exact HSK.out _ HB1.out | exact HSK.out _ (bnew HB1.out _) | exact HSK.out _ HB0.out | exact HSK.out _ (bnew HB0.out _)
      clear hK K
      try simp only [Act.put, List.setIfInBounds_toArray, List.set_cons_zero, List.set_cons_succ]
      refine wpAnyH_ready (rs := [9]) (by kernel_rfl) (by simp) ?_
      refine AllReadyH.cons rfl (fun K hK => ?_) (AllReadyH.nil)
      go_simp
      go_at_call 14
      refine (rstep_any _ B (Nat.le_trans hB (bnew HB1.out (.cells #[.int .i64 0, .int .i64 0] 76)).size) A' n' c' H' (HS'.out.keep (Below.mono (bnew HB1.out (.cells #[.int .i64 0, .int .i64 0] 76)) hB) (Nat.le_refl _)) (v : Int) (ch : Int)).mono ?_
      rintro e w2 ⟨rfl, hb⟩
      have HB2 := Lib.hid (bcall (bnew HB1.out (.cells #[.int .i64 0, .int .i64 0] 76)) hb)
      have HQw2 : Hid (w2.heap[w1.heap.size]? = some (.cells #[.int .i64 0, .int .i64 0] 76 (0, 0))) := (hb.block _ (Array.getElem?_eq_some_iff.1 (heap_alloc_new w1 (.cells #[.int .i64 0, .int .i64 0] 76))).1).trans (heap_alloc_new w1 (.cells #[.int .i64 0, .int .i64 0] 76))
      clear hb
      refine hK.out _ _ ?_ (fun hHeld => ?_)
      · (try dsimp only); first | assumption | exact ⟨p0, p1⟩ | exact HSK.out _ HB9.out | exact HSK.out _ HB2.out | exact HSK.out _ (bnew HB2.out _) | exact HSK.out _ HB1.out | exact HSK.out _ (bnew HB1.out _) | exact HSK.out _ HB0.out | exact HSK.out _ (bnew HB0.out _)
      clear hK K
      try simp only [Act.put, List.setIfInBounds_toArray, List.set_cons_zero, List.set_cons_succ]
      refine wpAnyH_take (i := 10) (v := ?_) rfl (by kernel_rfl) (by kernel_rfl) (by kernel_rfl) (fun c _ w h => hQ0 c _ _ w (by rfl) h) (Or.inl ⟨by rfl, ?_⟩) (by assumption) ?_
      rotate_left
      · intro w hSw; (try dsimp only at hSw); go_simp; (try with_reducible rfl)
      try simp only [Act.put, List.setIfInBounds_toArray]
      refine wpAnyH_ready (rs := [12]) (by kernel_rfl) (by simp) ?_
      refine AllReadyH.cons rfl (fun K hK => ?_) (AllReadyH.nil)
      have q0 := cell_of_row _ (w1.heap.size) 0 _ _ (0, 0) HQw2.out
      have q1 := cell_of_row _ (w1.heap.size) 1 _ _ (0, 0) HQw2.out
      have f0 := free_at HQw2.out 0
      have f1 := free_at HQw2.out 1
      have ql := (Array.getElem?_eq_some_iff.1 HQw2.out).1
      have HB9 := Lib.hid (below_set (j := 1) (u := .int .i64 (stepI (H'.map (·.d)) (v : Int) (ch : Int))) (below_set (j := 0) (u := .int .i64 (stepI (H.map (·.d)) (u : Int) (ch : Int))) HB2.out hqlo.out (Nat.le_refl _)) hqlo.out (Nat.le_refl _))
      go_simp
      refine hK.out _ _ ?_ (fun hHeld => ?_)
      · (try dsimp only); first | assumption | exact ⟨p0, p1⟩ | exact HSK.out _ HB9.out | exact HSK.out _ HB2.out | exact HSK.out _ (bnew HB2.out _) | exact HSK.out _ HB1.out | exact HSK.out _ (bnew HB1.out _) | exact HSK.out _ HB0.out | exact HSK.out _ (bnew HB0.out _)
      clear hK K
      try simp only [Act.put, List.setIfInBounds_toArray, List.set_cons_zero, List.set_cons_succ]
      refine wpAnyH_done (by kernel_rfl) ?_ _
      exact hexit _ _ _ _ _ _ _ _ _ _ _ _ _ (blk_set (blk_set HQw2.out _) _) HB9 hqlo
  · skip
    have hqlo : Hid (W0.heap.size ≤ W0.heap.size) := HB0.out.size
    go_simp
    refine hK.out _ _ ?_ (fun hHeld => ?_)
    · (try dsimp only); first | assumption | exact ⟨p0, p1⟩ | exact HSK.out _ HB9.out | exact HSK.out _ HB2.out | exact HSK.out _ (bnew HB2.out _) | exact HSK.out _ HB1.out | exact HSK.out _ (bnew HB1.out _) | exact HSK.out _ HB0.out | exact HSK.out _ (bnew HB0.out _)
    clear hK K
    try simp only [Act.put, List.setIfInBounds_toArray, List.set_cons_zero, List.set_cons_succ]
    refine wpAnyH_ready (rs := [4]) (by kernel_rfl) (by simp) ?_
    refine AllReadyH.cons rfl (fun K hK => ?_) (AllReadyH.nil)
    go_simp
    go_at_call 14
    refine (rstep_any _ B (Nat.le_trans hB (bnew HB0.out (.cells #[.int .i64 0, .int .i64 0] 76)).size) A n c H (HS.out.keep (Below.mono (bnew HB0.out (.cells #[.int .i64 0, .int .i64 0] 76)) hB) (Nat.le_refl _)) (u : Int) (ch : Int)).mono ?_
    rintro e w1 ⟨rfl, hb⟩
    have HB1 := Lib.hid (bcall (bnew HB0.out (.cells #[.int .i64 0, .int .i64 0] 76)) hb)
    have HQw1 : Hid (w1.heap[W0.heap.size]? = some (.cells #[.int .i64 0, .int .i64 0] 76 (0, 0))) := (hb.block _ (Array.getElem?_eq_some_iff.1 (heap_alloc_new W0.drew (.cells #[.int .i64 0, .int .i64 0] 76))).1).trans (heap_alloc_new W0.drew (.cells #[.int .i64 0, .int .i64 0] 76))
    clear hb
    refine hK.out _ _ ?_ (fun hHeld => ?_)
    · (try dsimp only); first | assumption | exact ⟨p0, p1⟩ | exact HSK.out _ HB9.out | exact HSK.out _ HB2.out | exact HSK.out _ (bnew HB2.out _) | exact HSK.out _ HB1.out | exact HSK.out _ (bnew HB1.out _) | exact HSK.out _ HB0.out | exact HSK.out _ (bnew HB0.out _)
    clear hK K
    try simp only [Act.put, List.setIfInBounds_toArray, List.set_cons_zero, List.set_cons_succ]
    refine wpAnyH_ready (rs := [9]) (by kernel_rfl) (by simp) ?_
    refine AllReadyH.cons rfl (fun K hK => ?_) (AllReadyH.nil)
    go_simp
    go_at_call 14
    refine (rstep_any _ B (Nat.le_trans hB (HB1.out).size) A' n' c' H' (HS'.out.keep (Below.mono (HB1.out) hB) (Nat.le_refl _)) (v : Int) (ch : Int)).mono ?_
    rintro e w2 ⟨rfl, hb⟩
    have HB2 := Lib.hid (bcall (HB1.out) hb)
    have HQw2 : Hid (w2.heap[W0.heap.size]? = some (.cells #[.int .i64 0, .int .i64 0] 76 (0, 0))) := (hb.block _ (Array.getElem?_eq_some_iff.1 (HQw1.out)).1).trans (HQw1.out)
    clear hb
    refine hK.out _ _ ?_ (fun hHeld => ?_)
    · (try dsimp only); first | assumption | exact ⟨p0, p1⟩ | exact HSK.out _ HB9.out | exact HSK.out _ HB2.out | exact HSK.out _ (bnew HB2.out _) | exact HSK.out _ HB1.out | exact HSK.out _ (bnew HB1.out _) | exact HSK.out _ HB0.out | exact HSK.out _ (bnew HB0.out _)
    clear hK K
    try simp only [Act.put, List.setIfInBounds_toArray, List.set_cons_zero, List.set_cons_succ]
    refine wpAnyH_take (i := 10) (v := ?_) rfl (by kernel_rfl) (by kernel_rfl) (by kernel_rfl) (fun c _ w h => hQ0 c _ _ w (by rfl) h) (Or.inl ⟨by rfl, ?_⟩) (by assumption) ?_
    rotate_left
    · intro w hSw; (try dsimp only at hSw); go_simp; (try with_reducible rfl)
    try simp only [Act.put, List.setIfInBounds_toArray]
    refine wpAnyH_ready (rs := [12]) (by kernel_rfl) (by simp) ?_
    refine AllReadyH.cons rfl (fun K hK => ?_) (AllReadyH.nil)
    have q0 := cell_of_row _ (W0.heap.size) 0 _ _ (0, 0) HQw2.out
    have q1 := cell_of_row _ (W0.heap.size) 1 _ _ (0, 0) HQw2.out
    have f0 := free_at HQw2.out 0
    have f1 := free_at HQw2.out 1
    have ql := (Array.getElem?_eq_some_iff.1 HQw2.out).1
    have HB9 := Lib.hid (below_set (j := 1) (u := .int .i64 (stepI (H'.map (·.d)) (v : Int) (ch : Int))) (below_set (j := 0) (u := .int .i64 (stepI (H.map (·.d)) (u : Int) (ch : Int))) HB2.out hqlo.out (Nat.le_refl _)) hqlo.out (Nat.le_refl _))
    go_simp
    refine hK.out _ _ ?_ (fun hHeld => ?_)
    · (try dsimp only); first | assumption | exact ⟨p0, p1⟩ | exact HSK.out _ HB9.out | exact HSK.out _ HB2.out | exact HSK.out _ (bnew HB2.out _) | exact HSK.out _ HB1.out | exact HSK.out _ (bnew HB1.out _) | exact HSK.out _ HB0.out | exact HSK.out _ (bnew HB0.out _)
    clear hK K
    try simp only [Act.put, List.setIfInBounds_toArray, List.set_cons_zero, List.set_cons_succ]
    refine wpAnyH_done (by kernel_rfl) ?_ _
    exact hexit _ _ _ _ _ _ _ _ _ _ _ _ _ (blk_set (blk_set HQw2.out _) _) HB9 hqlo
end Go.Proofs.YtebdffabfimmkaaDoor
/- The reference's Both: which pair is met. -/
namespace Go.Proofs.YtebdffabfimmkaaDoor
open Go.RowKit Go.Maps

theorem neq_pairs (w : World) (p q : Nat × Nat) : (binOp .neq 76 (.agg #[.int .i64 (p.1 : Int), .int .i64 (p.2 : Int)]) (.agg #[.int .i64 (q.1 : Int), .int .i64 (q.2 : Int)])).run Tryd.prog w = .ok (.bool (!decide (p = q))) w := by
  rw [neq_pair w ((p.1 : Int), (p.2 : Int)) ((q.1 : Int), (q.2 : Int))]
  congr 3
  apply decide_eq_decide.2
  constructor
  · intro h
    injection h with h1 h2
    exact Prod.ext (by omega) (by omega)
  · rintro rfl
    rfl
theorem pair_eqv (a e : List St) (p q : Nat × Nat) : (pairW a e).eqv (pairL p) (pairL q) = decide (p = q) := by
  show decide (pairL p = pairL q) = _
  apply decide_eq_decide.2
  exact ⟨pairL_inj, fun h => by rw [h]⟩
set_option linter.unusedVariables false in
set_option maxRecDepth 100000 in
set_option maxHeartbeats 8000000 in
theorem both_k (W0 : World) (a e : List St) (b0 : Nat) (Ap : Option Addr) (m cp : Nat) (ps : List (Nat × Nat)) (HPS : Hid (W0.ownsRow b0 76 2 (.slice Ap m cp) m (pairsC ps))) (hm : m ≤ 1099511627776) (qb : Nat) (y : Nat × Nat) (HQ : Hid (W0.heap[qb]? = some (.cells #[.int .i64 (y.1 : Int), .int .i64 (y.2 : Int)] 76 (0, 0))))
    (c0 c1 c2 c3 c4 c5 c6 c7 c9 c10 c11 c12 c13 c16 c17 c18 c19 c20 c21 c22 c23 c24 c25 c26 c27 c28 c29 c30 c31 c32 c33 c34 c35 c36 c37 c38 c39 c40 c41 c42 c43 c44 c45 c46 c47 c48 c49 c50 c51 c52 c53 c54 c55 c56 c57 c58 c59 c60 c61 c62 c63 c64 c65 c66 c67 c68 c69 c70 c71 c72 c73 c74 c75 c76 c77 c92 c93 c94 c95 c96 c97 c98 c99 c100 c101 c102 c103 c104 c105 c106 c107 c108 c109 c110 c111 u78 u79 u80 u81 u82 u83 u84 u85 u86 u87 u88 u89 u90 u91 : Value) (Q0 : Exit → Act → World → Prop) (hQ0 : ∀ c (a a' : Act) w, a.defers = a'.defers → Q0 (.panic c) a w → Q0 (.panic c) a' w)
    (hexit : ∀ (k : Nat) (W : World) (u78 u79 u80 u81 u82 u83 u84 u85 u86 u87 u88 u89 u90 u91 : Value), k ≤ m → Hid (Below W0.heap.size W0 W) → Hid (KAt (fun z => (pairW a e).eqv z (pairL y)) (ps.map pairL) k) → Q0 (.exit 4) ⟨List.toArray (c0 :: c1 :: c2 :: c3 :: c4 :: c5 :: c6 :: c7 :: .slice Ap m cp :: c9 :: c10 :: c11 :: c12 :: c13 :: .pointer (some ⟨qb, 0, none⟩) :: .int .i64 (k : Int) :: c16 :: c17 :: c18 :: c19 :: c20 :: c21 :: c22 :: c23 :: c24 :: c25 :: c26 :: c27 :: c28 :: c29 :: c30 :: c31 :: c32 :: c33 :: c34 :: c35 :: c36 :: c37 :: c38 :: c39 :: c40 :: c41 :: c42 :: c43 :: c44 :: c45 :: c46 :: c47 :: c48 :: c49 :: c50 :: c51 :: c52 :: c53 :: c54 :: c55 :: c56 :: c57 :: c58 :: c59 :: c60 :: c61 :: c62 :: c63 :: c64 :: c65 :: c66 :: c67 :: c68 :: c69 :: c70 :: c71 :: c72 :: c73 :: c74 :: c75 :: c76 :: c77 :: u78 :: u79 :: u80 :: u81 :: u82 :: u83 :: u84 :: u85 :: u86 :: u87 :: u88 :: u89 :: u90 :: u91 :: c92 :: c93 :: c94 :: c95 :: c96 :: c97 :: c98 :: c99 :: c100 :: c101 :: c102 :: c103 :: c104 :: c105 :: c106 :: c107 :: c108 :: c109 :: c110 :: c111 :: []), []⟩ W) :
    Code.wp Tryd.prog (.loop (loopOf Tryd.f22 2)) Q0 ⟨List.toArray (c0 :: c1 :: c2 :: c3 :: c4 :: c5 :: c6 :: c7 :: .slice Ap m cp :: c9 :: c10 :: c11 :: c12 :: c13 :: .pointer (some ⟨qb, 0, none⟩) :: .int .i64 (0 : Int) :: c16 :: c17 :: c18 :: c19 :: c20 :: c21 :: c22 :: c23 :: c24 :: c25 :: c26 :: c27 :: c28 :: c29 :: c30 :: c31 :: c32 :: c33 :: c34 :: c35 :: c36 :: c37 :: c38 :: c39 :: c40 :: c41 :: c42 :: c43 :: c44 :: c45 :: c46 :: c47 :: c48 :: c49 :: c50 :: c51 :: c52 :: c53 :: c54 :: c55 :: c56 :: c57 :: c58 :: c59 :: c60 :: c61 :: c62 :: c63 :: c64 :: c65 :: c66 :: c67 :: c68 :: c69 :: c70 :: c71 :: c72 :: c73 :: c74 :: c75 :: c76 :: c77 :: u78 :: u79 :: u80 :: u81 :: u82 :: u83 :: u84 :: u85 :: u86 :: u87 :: u88 :: u89 :: u90 :: u91 :: c92 :: c93 :: c94 :: c95 :: c96 :: c97 :: c98 :: c99 :: c100 :: c101 :: c102 :: c103 :: c104 :: c105 :: c106 :: c107 :: c108 :: c109 :: c110 :: c111 :: []), []⟩ W0 := by
  have hml : ps.length = m := by have := HPS.out.1; rw [pairsC_len] at this; omega
  have HML := Lib.hid hml
  have HQ0 := HQ.out
  have HB0 := Lib.hid (brefl W0)
  clear hml HQ0
  conv => arg 2; arg 1; whnf
  go_loopw [15] (fun kv wr => ∃ k : Nat, k ≤ m ∧ kv = .int .i64 k ∧ Hid (Below W0.heap.size W0 wr) ∧ Hid (∀ (j : Nat) x, j < k → (ps.map pairL)[j]? = some x → (pairW a e).eqv x (pairL y) = false)) (fun kv _ => m - (intOf kv).toNat)
  case atStart => exact ⟨0, Nat.zero_le _, rfl, HB0, fun j x h => absurd h (by omega)⟩
  case round =>
    clear HB0
    obtain ⟨k, hk, rfl, HB, HP⟩ := hrel
    by_cases hkm : k < m
    · have hkm2 : (k : Int) < (m : Int) := by omega
      have i0 : (0 : Int) ≤ (k : Int) := by omega
      have q0 : decide ((k : Int) < (m : Int)) = true := decide_eq_true hkm2
      have q01 : decide (k < m) = true := decide_eq_true hkm
      obtain ⟨x, hx⟩ : ∃ x, ps[k]? = some x := ⟨ps[k]'(by rw [HML.out]; exact hkm), List.getElem?_eq_getElem _⟩
      have HPW := own_kept HPS.out HB.out
      obtain ⟨g, rfl, hg1, hg2⟩ := own_head HPW (by omega)
      obtain ⟨m0, m1⟩ := pairs_cell HPW hx
      have hqw := (HB.out.block qb (Array.getElem?_eq_some_iff.1 HQ.out).1).trans HQ.out
      have y0 := cell_of_row _ qb 0 _ _ (0, 0) hqw
      have y1 := cell_of_row _ qb 1 _ _ (0, 0) hqw
      have hql := (Array.getElem?_eq_some_iff.1 hqw).1
      have hnq := fun w => neq_pairs w x y
      have hgu := gu_pair
      have HE := Lib.hid (pair_eqv a e x y)
      have HX : Hid ((ps.map pairL)[k]? = some (pairL x)) := by show _ = _; rw [List.getElem?_map, hx]; rfl
      have HBD := Lib.hid HB.out
      clear hx HPW hqw hg1
      simp at y0 y1
      by_cases hxy : x = y
      · have q2 : (!decide (x = y)) = false := by rw [decide_eq_true hxy]; rfl
        rw [q2] at hnq
        have HK : Hid (KAt (fun z => (pairW a e).eqv z (pairL y)) (ps.map pairL) k) := .inl ⟨findI_at HP.out HX.out (by rw [HE.out]; exact decide_eq_true hxy), by rw [List.length_map, HML.out]; exact hkm⟩
        clear HP HE HX q2 hxy
        obtain ⟨x1, x2⟩ := x
        obtain ⟨z1, z2⟩ := y
        simp only at m0 m1 y0 y1 hnq
        go_wp2_with fail
        go_quiet (fail)
        go_wp2_with fail
        exact hexit k _ _ _ _ _ _ _ _ _ _ _ _ _ _ _ hk (Lib.hid (below_drewN HBD.out nq)) HK
      · have q2 : (!decide (x = y)) = true := by rw [decide_eq_false hxy]; rfl
        rw [q2] at hnq
        have HPN : Hid (∀ (j : Nat) z, j < k + 1 → (ps.map pairL)[j]? = some z → (pairW a e).eqv z (pairL y) = false) := fun j z hj hz => by
          by_cases e' : j < k
          · exact HP.out j z e' hz
          · obtain rfl : j = k := by omega
            rw [HX.out] at hz
            injection hz with hz
            rw [← hz, HE.out]
            exact decide_eq_false hxy
        clear HP HE HX q2 hxy
        obtain ⟨x1, x2⟩ := x
        obtain ⟨z1, z2⟩ := y
        simp only at m0 m1 y0 y1 hnq
        go_wp2_with fail
        go_quiet (fail)
        go_wp2_with fail
        go_roundw
        case rel => exact ⟨k + 1, by omega, by go_num, Lib.hid (below_drewN HBD.out nq), HPN⟩
        case measure => simp [intOf]; omega
    · obtain rfl : k = m := by omega
      have q0 : decide ((k : Int) < (k : Int)) = false := decide_eq_false (by omega)
      have q01 : decide (k < k) = false := decide_eq_false (by omega)
      have HK : Hid (KAt (fun z => (pairW a e).eqv z (pairL y)) (ps.map pairL) k) := .inr ⟨findI_end HP.out (by rw [List.length_map, HML.out]; exact Nat.le_refl _), by rw [List.length_map]; exact HML.out.symm⟩
      have HBD := Lib.hid HB.out
      clear HP
      go_wp2_with fail
      go_quiet (fail)
      go_wp2_with fail
      exact hexit k _ _ _ _ _ _ _ _ _ _ _ _ _ _ _ hk (Lib.hid (below_drewN HBD.out nq)) HK
end Go.Proofs.YtebdffabfimmkaaDoor
