/- The reference's Both: where a byte leads from a pair (one region that draws its order). -/
import Derived.Test.YtebdffabfimmkaaDoorHDfaBoth30
import Derived.Test.YtebdffabfimmkaaDoorHDfaBoth24
import Derived.Deep.RegionHeld3
import Derived.Test.YtebdffabfimmkaaDoorHDfaBoth7
import Derived.Test.YtebdffabfimmkaaDoorHDfaBoth10
namespace Go.Proofs.YtebdffabfimmkaaDoor
open Go.RowKit Go.Maps

set_option linter.unusedVariables false in
set_option maxRecDepth 100000 in
set_option maxHeartbeats 8000000 in
theorem both_r15 (W0 : World) (B : Nat) (hB : B ≤ W0.heap.size) (A : Option Addr) (n c : Nat) (H : List Sh) (HS : Hid (StsIn W0 B A n c H)) (A' : Option Addr) (n' c' : Nat) (H' : List Sh) (HS' : Hid (StsIn W0 B A' n' c' H')) (pp u v ch : Nat) (HP : Hid (W0.heap[pp]? = some (.cells #[.int .i64 (u : Int), .int .i64 (v : Int)] 76 (0, 0))))
    (c2 c3 c4 c5 c6 c7 c8 c9 c10 c12 c15 c16 c17 c18 c19 c20 c21 c22 c23 c24 c25 c26 c27 c28 c29 c30 c31 c32 c33 c34 c35 c36 c37 c38 c39 c40 c41 c42 c43 c44 c45 c46 c47 c48 c49 c50 c51 c52 c53 c54 c55 c56 c57 c58 c70 c71 c72 c73 c74 c75 c76 c77 c78 c79 c80 c81 c82 c83 c84 c85 c86 c87 c88 c89 c90 c91 c92 c93 c94 c95 c96 c97 c98 c99 c100 c101 c102 c103 c104 c105 c106 c107 c108 c109 c110 c111 u14 u59 u60 u61 u62 u63 u64 u65 u66 u67 u68 u69 : Value) (Q0 : Exit → Act → World → Prop) (hQ0 : ∀ c (a a' : Act) w, a.defers = a'.defers → Q0 (.panic c) a w → Q0 (.panic c) a' w)
    (hexit : ∀ (qb : Nat) (W : World) (u59 u60 u61 u62 u63 u64 u65 u66 u67 u68 u69 : Value), Hid (W.heap[qb]? = some (.cells #[.int .i64 (stepI (H.map (·.d)) (u : Int) (ch : Int)), .int .i64 (stepI (H'.map (·.d)) (v : Int) (ch : Int))] 76 (0, 0))) → Hid (Below W0.heap.size W0 W) → Hid (W0.heap.size ≤ qb) → Q0 .normal ⟨List.toArray (.slice A n c :: .slice A' n' c' :: c2 :: c3 :: c4 :: c5 :: c6 :: c7 :: c8 :: c9 :: c10 :: .pointer (some ⟨pp, 0, none⟩) :: c12 :: .int .i64 (ch : Int) :: .pointer (some ⟨qb, 0, none⟩) :: c15 :: c16 :: c17 :: c18 :: c19 :: c20 :: c21 :: c22 :: c23 :: c24 :: c25 :: c26 :: c27 :: c28 :: c29 :: c30 :: c31 :: c32 :: c33 :: c34 :: c35 :: c36 :: c37 :: c38 :: c39 :: c40 :: c41 :: c42 :: c43 :: c44 :: c45 :: c46 :: c47 :: c48 :: c49 :: c50 :: c51 :: c52 :: c53 :: c54 :: c55 :: c56 :: c57 :: c58 :: u59 :: u60 :: u61 :: u62 :: u63 :: u64 :: u65 :: u66 :: u67 :: u68 :: u69 :: c70 :: c71 :: c72 :: c73 :: c74 :: c75 :: c76 :: c77 :: c78 :: c79 :: c80 :: c81 :: c82 :: c83 :: c84 :: c85 :: c86 :: c87 :: c88 :: c89 :: c90 :: c91 :: c92 :: c93 :: c94 :: c95 :: c96 :: c97 :: c98 :: c99 :: c100 :: c101 :: c102 :: c103 :: c104 :: c105 :: c106 :: c107 :: c108 :: c109 :: c110 :: c111 :: []), []⟩ W) :
    Code.wp Tryd.prog (regOf Tryd.f22 15) Q0 ⟨List.toArray (.slice A n c :: .slice A' n' c' :: c2 :: c3 :: c4 :: c5 :: c6 :: c7 :: c8 :: c9 :: c10 :: .pointer (some ⟨pp, 0, none⟩) :: c12 :: .int .i64 (ch : Int) :: u14 :: c15 :: c16 :: c17 :: c18 :: c19 :: c20 :: c21 :: c22 :: c23 :: c24 :: c25 :: c26 :: c27 :: c28 :: c29 :: c30 :: c31 :: c32 :: c33 :: c34 :: c35 :: c36 :: c37 :: c38 :: c39 :: c40 :: c41 :: c42 :: c43 :: c44 :: c45 :: c46 :: c47 :: c48 :: c49 :: c50 :: c51 :: c52 :: c53 :: c54 :: c55 :: c56 :: c57 :: c58 :: u59 :: u60 :: u61 :: u62 :: u63 :: u64 :: u65 :: u66 :: u67 :: u68 :: u69 :: c70 :: c71 :: c72 :: c73 :: c74 :: c75 :: c76 :: c77 :: c78 :: c79 :: c80 :: c81 :: c82 :: c83 :: c84 :: c85 :: c86 :: c87 :: c88 :: c89 :: c90 :: c91 :: c92 :: c93 :: c94 :: c95 :: c96 :: c97 :: c98 :: c99 :: c100 :: c101 :: c102 :: c103 :: c104 :: c105 :: c106 :: c107 :: c108 :: c109 :: c110 :: c111 :: []), []⟩ W0 := by
  have p0 : W0.cell? ⟨pp, 0, none⟩ = some (.int .i64 (u : Int)) := cell_of_row _ pp 0 _ _ (0, 0) HP.out
  have p1 : W0.cell? ⟨pp, 1, none⟩ = some (.int .i64 (v : Int)) := cell_of_row _ pp 1 _ _ (0, 0) HP.out
  have HSK : Hid (∀ W', Below W0.heap.size W0 W' → W'.cell? ⟨pp, 0, none⟩ = some (.int .i64 (u : Int)) ∧ W'.cell? ⟨pp, 1, none⟩ = some (.int .i64 (v : Int))) := fun W' hb => ⟨(hb.cell (p := ⟨pp, 0, none⟩) (Array.getElem?_eq_some_iff.1 HP.out).1).trans p0, (hb.cell (p := ⟨pp, 1, none⟩) (Array.getElem?_eq_some_iff.1 HP.out).1).trans p1⟩
  conv => arg 2; whnf
  have HB0 : Hid (Below W0.heap.size W0 W0.drew) := Below.drew (brefl _)
  refine wp_region_held_drew (S := fun w' => w'.cell? ⟨pp, 0, none⟩ = some (.int .i64 (u : Int)) ∧ w'.cell? ⟨pp, 1, none⟩ = some (.int .i64 (v : Int))) (by kernel_rfl) ?_ (fun hHeld => ?_)
  · (try dsimp only); first | assumption | exact ⟨p0, p1⟩ | exact HSK.out _ HB9.out | exact HSK.out _ HB2.out | exact HSK.out _ (bnew HB2.out _) | exact HSK.out _ HB1.out | exact HSK.out _ (bnew HB1.out _) | exact HSK.out _ HB0.out | exact HSK.out _ (bnew HB0.out _)
  refine wpAnyH_take (i := 0) (v := ?_) rfl (by kernel_rfl) (by kernel_rfl) (by kernel_rfl) (fun c _ w h => hQ0 c _ _ w (by rfl) h) (Or.inl ⟨by rfl, ?_⟩) (by assumption) ?_
  rotate_left
  · intro w hSw; (try dsimp only at hSw); go_simp; (try with_reducible rfl)
  try simp only [Act.put, List.setIfInBounds_toArray]
  refine wpAnyH_take (i := 1) (v := ?_) rfl (by kernel_rfl) (by kernel_rfl) (by kernel_rfl) (fun c _ w h => hQ0 c _ _ w (by rfl) h) (Or.inl ⟨by rfl, ?_⟩) (by assumption) ?_
  rotate_left
  · intro w hSw; (try dsimp only at hSw); go_simp; (try with_reducible rfl)
  try simp only [Act.put]
  refine wpAnyH_take (i := 2) (v := ?_) rfl (by kernel_rfl) (by kernel_rfl) (by kernel_rfl) (fun c _ w h => hQ0 c _ _ w (by rfl) h) (Or.inl ⟨by rfl, ?_⟩) (by assumption) ?_
  rotate_left
  · intro w hSw; (try dsimp only at hSw); go_simp; (try with_reducible rfl)
  try simp only [Act.put]
  refine wpAnyH_take (i := 3) (v := ?_) rfl (by kernel_rfl) (by kernel_rfl) (by kernel_rfl) (fun c _ w h => hQ0 c _ _ w (by rfl) h) (Or.inl ⟨by rfl, ?_⟩) (by assumption) ?_
  rotate_left
  · intro w hSw; (try dsimp only at hSw); go_simp; (try with_reducible rfl)
  try simp only [Act.put]
  refine wpAnyH_take (i := 5) (v := ?_) rfl (by kernel_rfl) (by kernel_rfl) (by kernel_rfl) (fun c _ w h => hQ0 c _ _ w (by rfl) h) (Or.inl ⟨by rfl, ?_⟩) (by assumption) ?_
  rotate_left
  · intro w hSw; (try dsimp only at hSw); go_simp; (try with_reducible rfl)
  try simp only [Act.put]
  refine wpAnyH_take (i := 6) (v := ?_) rfl (by kernel_rfl) (by kernel_rfl) (by kernel_rfl) (fun c _ w h => hQ0 c _ _ w (by rfl) h) (Or.inl ⟨by rfl, ?_⟩) (by assumption) ?_
  rotate_left
  · intro w hSw; (try dsimp only at hSw); go_simp; (try with_reducible rfl)
  try simp only [Act.put]
  refine wpAnyH_take (i := 7) (v := ?_) rfl (by kernel_rfl) (by kernel_rfl) (by kernel_rfl) (fun c _ w h => hQ0 c _ _ w (by rfl) h) (Or.inl ⟨by rfl, ?_⟩) (by assumption) ?_
  rotate_left
  · intro w hSw; (try dsimp only at hSw); go_simp; (try with_reducible rfl)
  try simp only [Act.put]
  refine wpAnyH_take (i := 8) (v := ?_) rfl (by kernel_rfl) (by kernel_rfl) (by kernel_rfl) (fun c _ w h => hQ0 c _ _ w (by rfl) h) (Or.inl ⟨by rfl, ?_⟩) (by assumption) ?_
  rotate_left
  · intro w hSw; (try dsimp only at hSw); go_simp; (try with_reducible rfl)
  try simp only [Act.put]
  refine wpAnyH_ready (rs := [4, 11]) (by kernel_rfl) (by simp) ?_
  refine AllReadyH.cons rfl (fun K hK => ?_) (AllReadyH.cons rfl (fun K hK => ?_) (AllReadyH.nil))
  · skip
    go_simp
    go_at_call 14
    refine (rstep_any _ B (Nat.le_trans hB (HB0.out).size) A n c H (HS.out.keep (Below.mono (HB0.out) hB) (Nat.le_refl _)) (u : Int) (ch : Int)).mono ?_
    rintro e w1 ⟨rfl, hb⟩
    have HB1 := Lib.hid (bcall (HB0.out) hb)
    clear hb
    refine hK.out _ _ ?_ (fun hHeld => ?_)
    · (try dsimp only); first | assumption | exact ⟨p0, p1⟩ | exact HSK.out _ HB9.out | exact HSK.out _ HB2.out | exact HSK.out _ (bnew HB2.out _) | exact HSK.out _ HB1.out | exact HSK.out _ (bnew HB1.out _) | exact HSK.out _ HB0.out | exact HSK.out _ (bnew HB0.out _)
    clear hK K
    try simp only [Act.put, List.setIfInBounds_toArray, List.set_cons_zero, List.set_cons_succ]
    refine wpAnyH_ready (rs := [9, 11]) (by kernel_rfl) (by simp) ?_
    refine AllReadyH.cons rfl (fun K hK => ?_) (AllReadyH.cons rfl (fun K hK => ?_) (AllReadyH.nil))
    · skip
      go_simp
      go_at_call 14
      refine (rstep_any _ B (Nat.le_trans hB (HB1.out).size) A' n' c' H' (HS'.out.keep (Below.mono (HB1.out) hB) (Nat.le_refl _)) (v : Int) (ch : Int)).mono ?_
      rintro e w2 ⟨rfl, hb⟩
      have HB2 := Lib.hid (bcall (HB1.out) hb)
      clear hb
      refine hK.out _ _ ?_ (fun hHeld => ?_)
      · (try dsimp only); first | assumption | exact ⟨p0, p1⟩ | exact HSK.out _ HB9.out | exact HSK.out _ HB2.out | exact HSK.out _ (bnew HB2.out _) | exact HSK.out _ HB1.out | exact HSK.out _ (bnew HB1.out _) | exact HSK.out _ HB0.out | exact HSK.out _ (bnew HB0.out _)
      clear hK K
      try simp only [Act.put, List.setIfInBounds_toArray, List.set_cons_zero, List.set_cons_succ]
      refine wpAnyH_take (i := 10) (v := ?_) rfl (by kernel_rfl) (by kernel_rfl) (by kernel_rfl) (fun c _ w h => hQ0 c _ _ w (by rfl) h) (Or.inl ⟨by rfl, ?_⟩) (by assumption) ?_
      rotate_left
      · intro w hSw; (try dsimp only at hSw); go_simp; (try with_reducible rfl)
      try simp only [Act.put, List.setIfInBounds_toArray]
      refine wpAnyH_ready (rs := [11]) (by kernel_rfl) (by simp) ?_
      refine AllReadyH.cons rfl (fun K hK => ?_) (AllReadyH.nil)
      go_simp
      refine hK.out _ _ ?_ (fun hHeld => ?_)
      · (try dsimp only); first | assumption | exact ⟨p0, p1⟩ | exact HSK.out _ HB9.out | exact HSK.out _ HB2.out | exact HSK.out _ (bnew HB2.out _) | exact HSK.out _ HB1.out | exact HSK.out _ (bnew HB1.out _) | exact HSK.out _ HB0.out | exact HSK.out _ (bnew HB0.out _)
      clear hK K
      try simp only [Act.put, List.setIfInBounds_toArray, List.set_cons_zero, List.set_cons_succ]
      refine wpAnyH_ready (rs := [12]) (by kernel_rfl) (by simp) ?_
      refine AllReadyH.cons rfl (fun K hK => ?_) (AllReadyH.nil)
      go_simp
      refine hK.out _ _ ?_ (fun hHeld => ?_)
      · (try dsimp only); first | assumption | exact ⟨p0, p1⟩ | exact HSK.out _ HB9.out | exact HSK.out _ HB2.out | exact HSK.out _ (bnew HB2.out _) | exact HSK.out _ HB1.out | exact HSK.out _ (bnew HB1.out _) | exact HSK.out _ HB0.out | exact HSK.out _ (bnew HB0.out _)
      clear hK K
      try simp only [Act.put, List.setIfInBounds_toArray, List.set_cons_zero, List.set_cons_succ]
      refine wpAnyH_done (by kernel_rfl) ?_ _
      have HZ : Hid ((w2.alloc (.cells #[.int .i64 (stepI (H.map (·.d)) (u : Int) (ch : Int)), .int .i64 (stepI (H'.map (·.d)) (v : Int) (ch : Int))] 76)).heap[w2.heap.size]? = _) := heap_alloc_new w2 _
      exact hexit _ _ _ _ _ _ _ _ _ _ _ _ _ HZ (bnew HB2.out _) HB2.out.size
    · skip
      have hqlo : Hid (W0.heap.size ≤ w1.heap.size) := HB1.out.size
      go_simp
      refine hK.out _ _ ?_ (fun hHeld => ?_)
      · (try dsimp only); first | assumption | exact ⟨p0, p1⟩ | exact HSK.out _ HB9.out | exact HSK.out _ HB2.out | exact HSK.out _ (bnew HB2.out _) | exact HSK.out _ HB1.out | exact HSK.out _ (bnew HB1.out _) | exact HSK.out _ HB0.out | exact HSK.out _ (bnew HB0.out _)
      clear hK K
      try simp only [Act.put, List.setIfInBounds_toArray, List.set_cons_zero, List.set_cons_succ]
      refine wpAnyH_ready (rs := [9]) (by kernel_rfl) (by simp) ?_
      refine AllReadyH.cons rfl (fun K hK => ?_) (AllReadyH.nil)
      go_simp
      go_at_call 14
      refine (rstep_any _ B (Nat.le_trans hB (bnew HB1.out (.cells #[.int .i64 0, .int .i64 0] 76)).size) A' n' c' H' (HS'.out.keep (Below.mono (bnew HB1.out (.cells #[.int .i64 0, .int .i64 0] 76)) hB) (Nat.le_refl _)) (v : Int) (ch : Int)).mono ?_
      rintro e w2 ⟨rfl, hb⟩
      have HB2 := Lib.hid (bcall (bnew HB1.out (.cells #[.int .i64 0, .int .i64 0] 76)) hb)
      have HQw2 : Hid (w2.heap[w1.heap.size]? = some (.cells #[.int .i64 0, .int .i64 0] 76 (0, 0))) := (hb.block _ (Array.getElem?_eq_some_iff.1 (heap_alloc_new w1 (.cells #[.int .i64 0, .int .i64 0] 76))).1).trans (heap_alloc_new w1 (.cells #[.int .i64 0, .int .i64 0] 76))
      clear hb
      refine hK.out _ _ ?_ (fun hHeld => ?_)
      · (try dsimp only); first | assumption | exact ⟨p0, p1⟩ | exact HSK.out _ HB9.out | exact HSK.out _ HB2.out | exact HSK.out _ (bnew HB2.out _) | exact HSK.out _ HB1.out | exact HSK.out _ (bnew HB1.out _) | exact HSK.out _ HB0.out | exact HSK.out _ (bnew HB0.out _)
      clear hK K
      try simp only [Act.put, List.setIfInBounds_toArray, List.set_cons_zero, List.set_cons_succ]
      refine wpAnyH_take (i := 10) (v := ?_) rfl (by kernel_rfl) (by kernel_rfl) (by kernel_rfl) (fun c _ w h => hQ0 c _ _ w (by rfl) h) (Or.inl ⟨by rfl, ?_⟩) (by assumption) ?_
      rotate_left
      · intro w hSw; (try dsimp only at hSw); go_simp; (try with_reducible rfl)
      try simp only [Act.put, List.setIfInBounds_toArray]
      refine wpAnyH_ready (rs := [12]) (by kernel_rfl) (by simp) ?_
      refine AllReadyH.cons rfl (fun K hK => ?_) (AllReadyH.nil)
      have q0 := cell_of_row _ (w1.heap.size) 0 _ _ (0, 0) HQw2.out
      have q1 := cell_of_row _ (w1.heap.size) 1 _ _ (0, 0) HQw2.out
      have f0 := free_at HQw2.out 0
      have f1 := free_at HQw2.out 1
      have ql := (Array.getElem?_eq_some_iff.1 HQw2.out).1
      have HB9 := Lib.hid (below_set (j := 1) (u := .int .i64 (stepI (H'.map (·.d)) (v : Int) (ch : Int))) (below_set (j := 0) (u := .int .i64 (stepI (H.map (·.d)) (u : Int) (ch : Int))) HB2.out hqlo.out (Nat.le_refl _)) hqlo.out (Nat.le_refl _))
      go_simp
      refine hK.out _ _ ?_ (fun hHeld => ?_)
      · (try dsimp only); first | assumption | exact ⟨p0, p1⟩ | exact HSK.out _ HB9.out | exact HSK.out _ HB2.out | exact HSK.out _ (bnew HB2.out _) | exact HSK.out _ HB1.out | exact HSK.out _ (bnew HB1.out _) | exact HSK.out _ HB0.out | exact HSK.out _ (bnew HB0.out _)
      clear hK K
      try simp only [Act.put, List.setIfInBounds_toArray, List.set_cons_zero, List.set_cons_succ]
      refine wpAnyH_done (by kernel_rfl) ?_ _
      exact hexit _ _ _ _ _ _ _ _ _ _ _ _ _ (blk_set (blk_set HQw2.out _) _) HB9 hqlo
  · skip
    have hqlo : Hid (W0.heap.size ≤ W0.heap.size) := HB0.out.size
    go_simp
    refine hK.out _ _ ?_ (fun hHeld => ?_)
    · (try dsimp only); first | assumption | exact ⟨p0, p1⟩ | exact HSK.out _ HB9.out | exact HSK.out _ HB2.out | exact HSK.out _ (bnew HB2.out _) | exact HSK.out _ HB1.out | exact HSK.out _ (bnew HB1.out _) | exact HSK.out _ HB0.out | exact HSK.out _ (bnew HB0.out _)
    clear hK K
    try simp only [Act.put, List.setIfInBounds_toArray, List.set_cons_zero, List.set_cons_succ]
    refine wpAnyH_ready (rs := [4]) (by kernel_rfl) (by simp) ?_
    refine AllReadyH.cons rfl (fun K hK => ?_) (AllReadyH.nil)
    go_simp
    go_at_call 14
    refine (rstep_any _ B (Nat.le_trans hB (bnew HB0.out (.cells #[.int .i64 0, .int .i64 0] 76)).size) A n c H (HS.out.keep (Below.mono (bnew HB0.out (.cells #[.int .i64 0, .int .i64 0] 76)) hB) (Nat.le_refl _)) (u : Int) (ch : Int)).mono ?_
    rintro e w1 ⟨rfl, hb⟩
    have HB1 := Lib.hid (bcall (bnew HB0.out (.cells #[.int .i64 0, .int .i64 0] 76)) hb)
    have HQw1 : Hid (w1.heap[W0.heap.size]? = some (.cells #[.int .i64 0, .int .i64 0] 76 (0, 0))) := (hb.block _ (Array.getElem?_eq_some_iff.1 (heap_alloc_new W0.drew (.cells #[.int .i64 0, .int .i64 0] 76))).1).trans (heap_alloc_new W0.drew (.cells #[.int .i64 0, .int .i64 0] 76))
    clear hb
    refine hK.out _ _ ?_ (fun hHeld => ?_)
    · (try dsimp only); first | assumption | exact ⟨p0, p1⟩ | exact HSK.out _ HB9.out | exact HSK.out _ HB2.out | exact HSK.out _ (bnew HB2.out _) | exact HSK.out _ HB1.out | exact HSK.out _ (bnew HB1.out _) | exact HSK.out _ HB0.out | exact HSK.out _ (bnew HB0.out _)
    clear hK K
    try simp only [Act.put, List.setIfInBounds_toArray, List.set_cons_zero, List.set_cons_succ]
    refine wpAnyH_ready (rs := [9]) (by kernel_rfl) (by simp) ?_
    refine AllReadyH.cons rfl (fun K hK => ?_) (AllReadyH.nil)
    go_simp
    go_at_call 14
    refine (rstep_any _ B (Nat.le_trans hB (HB1.out).size) A' n' c' H' (HS'.out.keep (Below.mono (HB1.out) hB) (Nat.le_refl _)) (v : Int) (ch : Int)).mono ?_
    rintro e w2 ⟨rfl, hb⟩
    have HB2 := Lib.hid (bcall (HB1.out) hb)
    have HQw2 : Hid (w2.heap[W0.heap.size]? = some (.cells #[.int .i64 0, .int .i64 0] 76 (0, 0))) := (hb.block _ (Array.getElem?_eq_some_iff.1 (HQw1.out)).1).trans (HQw1.out)
    clear hb
    refine hK.out _ _ ?_ (fun hHeld => ?_)
    · (try dsimp only); first | assumption | exact ⟨p0, p1⟩ | exact HSK.out _ HB9.out | exact HSK.out _ HB2.out | exact HSK.out _ (bnew HB2.out _) | exact HSK.out _ HB1.out | exact HSK.out _ (bnew HB1.out _) | exact HSK.out _ HB0.out | exact HSK.out _ (bnew HB0.out _)
    clear hK K
    try simp only [Act.put, List.setIfInBounds_toArray, List.set_cons_zero, List.set_cons_succ]
    refine wpAnyH_take (i := 10) (v := ?_) rfl (by kernel_rfl) (by kernel_rfl) (by kernel_rfl) (fun c _ w h => hQ0 c _ _ w (by rfl) h) (Or.inl ⟨by rfl, ?_⟩) (by assumption) ?_
    rotate_left
    · intro w hSw; (try dsimp only at hSw); go_simp; (try with_reducible rfl)
    try simp only [Act.put, List.setIfInBounds_toArray]
    refine wpAnyH_ready (rs := [12]) (by kernel_rfl) (by simp) ?_
    refine AllReadyH.cons rfl (fun K hK => ?_) (AllReadyH.nil)
    have q0 := cell_of_row _ (W0.heap.size) 0 _ _ (0, 0) HQw2.out
    have q1 := cell_of_row _ (W0.heap.size) 1 _ _ (0, 0) HQw2.out
    have f0 := free_at HQw2.out 0
    have f1 := free_at HQw2.out 1
    have ql := (Array.getElem?_eq_some_iff.1 HQw2.out).1
    have HB9 := Lib.hid (below_set (j := 1) (u := .int .i64 (stepI (H'.map (·.d)) (v : Int) (ch : Int))) (below_set (j := 0) (u := .int .i64 (stepI (H.map (·.d)) (u : Int) (ch : Int))) HB2.out hqlo.out (Nat.le_refl _)) hqlo.out (Nat.le_refl _))
    go_simp
    refine hK.out _ _ ?_ (fun hHeld => ?_)
    · (try dsimp only); first | assumption | exact ⟨p0, p1⟩ | exact HSK.out _ HB9.out | exact HSK.out _ HB2.out | exact HSK.out _ (bnew HB2.out _) | exact HSK.out _ HB1.out | exact HSK.out _ (bnew HB1.out _) | exact HSK.out _ HB0.out | exact HSK.out _ (bnew HB0.out _)
    clear hK K
    try simp only [Act.put, List.setIfInBounds_toArray, List.set_cons_zero, List.set_cons_succ]
    refine wpAnyH_done (by kernel_rfl) ?_ _
    exact hexit _ _ _ _ _ _ _ _ _ _ _ _ _ (blk_set (blk_set HQw2.out _) _) HB9 hqlo
end Go.Proofs.YtebdffabfimmkaaDoor
/- From which states no final one is reached, in the making (plain Lean). -/
namespace Go.Proofs.YtebdffabfimmkaaDoor

/-- In the midst of the reference's dead: what is not marked is alive. -/
structure DdP (d : List St) (L : List Bool) : Prop where
  len : L.length = d.length
  live : ∀ i : Nat, L[i]? = some false → (auOf d).live i
  fin : ∀ (i : Nat) s, d[i]? = some s → s.1 = true → L[i]? = some false
/-- Nothing more is to be unmarked, as far as one has come. -/
def DdTo (d : List St) (L : List Bool) (i k : Nat) : Prop := (∀ (y : Nat) s, y < i → L[y]? = some true → d[y]? = some s → ∀ a ∈ s.2, L[a.2.2.toNat]? = some true) ∧ ∀ s, d[i]? = some s → L[i]? = some true → ∀ a ∈ s.2.take k, L[a.2.2.toNat]? = some true
theorem DdTo.zero (d : List St) (L : List Bool) : DdTo d L 0 0 := ⟨fun y s h => absurd h (by omega), fun s _ _ t ht => by simp at ht⟩
theorem DdTo.next {d : List St} {L : List Bool} {i k : Nat} (h : DdTo d L i k) (he : ∀ s, d[i]? = some s → L[i]? = some true → s.2.length ≤ k) : DdTo d L (i + 1) 0 := by
  refine ⟨fun y s hy hb hs t ht => ?_, fun s _ _ t ht => by simp at ht⟩
  by_cases e : y < i
  · exact h.1 y s e hb hs t ht
  · obtain rfl : y = i := by omega
    exact h.2 s hs hb t (by rw [List.take_of_length_le (he s hs hb)]; exact ht)
theorem DdTo.one {d : List St} {L : List Bool} {i k : Nat} {s : St} {a : Arc3} (h : DdTo d L i k) (hs : d[i]? = some s) (ha : s.2[k]? = some a) (hb : L[a.2.2.toNat]? = some true) : DdTo d L i (k + 1) := by
  refine ⟨h.1, fun s' hs' hi u hu => ?_⟩
  rw [hs] at hs'
  injection hs' with hs'
  subst hs'
  rw [List.take_add_one, ha] at hu
  rcases List.mem_append.1 hu with hu | hu
  · exact h.2 s hs hi u hu
  · simp at hu
    rw [hu]
    exact hb
/-- An arc to what is alive. -/
theorem DdP.set {d : List St} {L : List Bool} (hg : Good d) (h : DdP d L) {i : Nat} {s : St} {a : Arc3} (hs : d[i]? = some s) (ha : a ∈ s.2) (hb : L[a.2.2.toNat]? = some false) : DdP d (L.set i false) := by
  have hl := (List.getElem?_eq_some_iff.1 hs).1
  have hlive : (auOf d).live i := by
    obtain ⟨t, ht⟩ := h.live _ hb
    have hm := List.mem_of_getElem? hs
    have hab := (hg.asc s hm).ok a ha
    have hto := hg.to_ s hm a ha
    refine ⟨a.1.toNat :: t, ?_⟩
    rw [Au.acc, if_pos (by omega)]
    have hst : (auOf d).step i a.1.toNat = some a.2.2.toNat := by
      show (d[i]?).bind _ = _
      rw [hs]
      show (lookA s.2 (a.1.toNat : Int)).map Int.toNat = _
      have hlk : lookA s.2 (a.1.toNat : Int) = some a.2.2 := by
        have := (hg.asc s hm)
        rw [show ((a.1.toNat : Nat) : Int) = a.1 by omega]
        unfold lookA
        obtain ⟨l1, l2, e⟩ := List.append_of_mem ha
        rw [e, List.find?_append]
        have hn : l1.find? (fun b => decide (b.1 ≤ a.1 ∧ a.1 ≤ b.2.1)) = none := by
          rw [List.find?_eq_none]
          intro b hb'
          have hlt := this.lt
          rw [e, List.pairwise_append] at hlt
          have := hlt.2.2 b hb' a (List.mem_cons_self ..)
          simp
          omega
        rw [hn]
        simp [hab.2.1]
      rw [hlk]
      rfl
    rw [hst]
    exact ht
  refine ⟨by rw [List.length_set]; exact h.len, fun y hy => ?_, fun y s' hy hf => ?_⟩
  · rw [List.getElem?_set] at hy
    split at hy
    · rename_i e
      subst e
      exact hlive
    · exact h.live y hy
  · rw [List.getElem?_set]
    split
    · rename_i e
      subst e
      rw [if_pos (by rw [h.len]; exact hl)]
    · exact h.fin y s' hy hf
/-- At the end the marked ones are dead. -/
theorem DdP.done {d : List St} {L : List Bool} (h : DdP d L) (hc : DdTo d L d.length 0) : ∀ (t : List Nat) (i : Nat), L[i]? = some true → (auOf d).acc i t = false
  | [], i, hi => by
    show ((d[i]?).map (·.1)).getD false = false
    cases hs : d[i]? with
    | none => rfl
    | some s =>
      cases hf : s.1 with
      | false => show s.1 = false; exact hf
      | true =>
        have := h.fin i s hs hf
        rw [hi] at this
        cases this
  | c :: t, i, hi => by
    rw [Au.acc]
    by_cases hc256 : c < 256
    · rw [if_pos hc256]
      have hst : (auOf d).step i c = (d[i]?).bind fun s => (lookA s.2 c).map Int.toNat := rfl
      rw [hst]
      cases hs : d[i]? with
      | none => rfl
      | some s =>
        simp only [Option.bind_some]
        cases hl : lookA s.2 c with
        | none => rfl
        | some z =>
          unfold lookA at hl
          obtain ⟨a, ha, rfl⟩ := Option.map_eq_some_iff.1 hl
          have hm := List.mem_of_find?_eq_some ha
          exact h.done hc t _ (hc.1 i s ((List.getElem?_eq_some_iff.1 hs).1) hi hs a hm)
    · rw [if_neg hc256]
end Go.Proofs.YtebdffabfimmkaaDoor
