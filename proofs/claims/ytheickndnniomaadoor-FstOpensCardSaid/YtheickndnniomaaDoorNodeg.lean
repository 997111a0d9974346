/- Dict.Node. -/
import Derived.Test.YtheickndnniomaaDoorDict
namespace Go.Proofs.YtheickndnniomaaDoor
open Go.RowKit Go.Maps

def zeroN : Value := .agg #[.bool false, .int .i64 0, .slice none 0 0]
set_option maxRecDepth 100000 in
theorem gnode_nil (w : World) (i : Int) : Calls Tryd.prog 21 #[.pointer none, .int .i64 i] w fun e w' => e = .returned (.tuple #[zeroN, .bool false]) ∧ Below w.heap.size w w' := by
  go_enter Tryd.func21, Tryd.ntmps21
  go_wp2_with fail
  exact bodyPost_ret (v := .tuple #[zeroN, .bool false]) (by simp [results, Tryd.results21, go_sem, zeroN]) rfl ⟨rfl, bnew (brefl w) _⟩
set_option maxRecDepth 100000 in
theorem gnode_out (w : World) (p B n c : Nat) (A : Option Addr) (base cnt : Int) (hs : List Nh) (h : DictAt w p B A n c base cnt hs) (i : Int) (hi : i < 0 ∨ (n : Int) ≤ i) : Calls Tryd.prog 21 #[.pointer (some ⟨p, 0, none⟩), .int .i64 i] w fun e w' => e = .returned (.tuple #[zeroN, .bool false]) ∧ Below w.heap.size w w' := by
  obtain ⟨c0, c1, c2⟩ := h.cells
  have hp := (lt_of_cell c0).1
  simp only at hp
  clear h
  by_cases h0 : i < 0
  · have q1 : decide (i < 0) = true := by simpa using h0
    go_enter Tryd.func21, Tryd.ntmps21
    go_wp2_with fail
    exact bodyPost_ret (v := .tuple #[zeroN, .bool false]) (by simp [results, Tryd.results21, go_sem, zeroN]) rfl ⟨rfl, bnew (brefl w) _⟩
  · have q1 : decide (i < 0) = false := by simpa using h0
    have q2 : decide (i ≥ (n : Int)) = true := by simp; omega
    go_enter Tryd.func21, Tryd.ntmps21
    go_wp2_with fail
    exact bodyPost_ret (v := .tuple #[zeroN, .bool false]) (by simp [results, Tryd.results21, go_sem, zeroN]) rfl ⟨rfl, bnew (brefl w) _⟩
theorem el_way2 : Elem Tryd.prog 49 55 3 24 := Elem.mk_ Tryd.underlying49 (z := .agg #[.int .i64 0, .int .i64 0, .int .i64 0]) (by kernel_rfl) rfl (by omega)
theorem three_blocks {w w3 : World} {o1 o2 o3 : Obj} (hb : Below (w.heap.size + 1 + 1) (((w.alloc o1).alloc o2).alloc o3) w3) : w3.heap[w.heap.size]? = some o1 ∧ w3.heap[w.heap.size + 1]? = some o2 ∧ w.heap.size + 1 + 1 < w3.heap.size := by
  have h := heap_alloc_new (w.alloc o1) o2
  have e : (w.alloc o1).heap.size = w.heap.size + 1 := by simp
  rw [e] at h
  have b1 := bnew (brefl (w.alloc o1)) o2
  have b2 := bnew (brefl ((w.alloc o1).alloc o2)) o3
  refine ⟨(hb.block w.heap.size (by omega)).trans ((b2.block _ (by simp; omega)).trans ((b1.block _ (by simp)).trans (heap_alloc_new w o1))), (hb.block _ (by omega)).trans ((b2.block _ (by simp)).trans h), ?_⟩
  have := hb.size
  simp at this
  omega
theorem own_lower {w : World} {b b' e s n : Nat} {v : Value} {xs : List Value} (h : w.ownsRow b e s v n xs) (hb : b' ≤ b) : w.ownsRow b' e s v n xs := by
  refine ⟨h.1, ?_⟩
  rcases h.2 with hn | ⟨g, cap, cur, rfl, hg, rest⟩
  · exact .inl hn
  · exact .inr ⟨g, cap, cur, rfl, by omega, rest⟩
theorem own_set {w : World} {b e s n k j : Nat} {v u : Value} {xs : List Value} (h : w.ownsRow b e s v n xs) (hb : k < b) : (w.setCell ⟨k, j, none⟩ u).ownsRow b e s v n xs := by
  refine h.kept (set_grown _ _ _) ?_
  cases hv : v.ownBlock with
  | none => exact .inl rfl
  | some g =>
    refine .inr fun e => ?_
    injection e with e
    have := (h.lt g hv).1
    simp at e
    omega
theorem below_set {w w' : World} {B k j : Nat} {u : Value} (h : Below B w w') (hk : B ≤ k) (hB : B ≤ w.heap.size) : Below B w (w'.setCell ⟨k, j, none⟩ u) := h.grown (set_grown _ _ _) (Nat.le_trans hB h.size) (fun q hq => by injection hq with hq; simp at hq; omega)
theorem free_at {w : World} {b : Nat} {C : Array Value} {t : TypeId} (h : w.heap[b]? = some (.cells C t (0, 0))) (j : Nat) : w.frozen? ⟨b, j, none⟩ = false := by simp [World.frozen?, h]
/-- The ways of a node that Node answers are new memory. -/
theorem gnode_any (w : World) (p B n c : Nat) (A : Option Addr) (base cnt : Int) (hs : List Nh) (h : DictAt w p B A n c base cnt hs) (i : Nat) (x : Nh) (hx : hs[i]? = some x) (hsm : x.d.ways.length ≤ 65536) : Calls Tryd.prog 21 #[.pointer (some ⟨p, 0, none⟩), .int .i64 i] w fun e w' => ∃ v, e = .returned (.tuple #[.agg #[.bool x.d.fin, .int .i64 x.d.out, v], .bool true]) ∧ w'.ownsRow w.heap.size 55 3 v x.d.ways.length (waysC x.d.ways) ∧ Below w.heap.size w w' := by
  obtain ⟨c0, c1, c2⟩ := h.cells
  have hp := (lt_of_cell c0).1
  simp only at hp
  have hin : i < n := by
    have := (List.getElem?_eq_some_iff.1 hx).1
    have := h.len
    omega
  obtain ⟨hnc, hn⟩ := h.cap
  obtain ⟨g, rfl, hgl, hnode⟩ := h.node_ (by omega)
  obtain ⟨n0, n1, n2⟩ := hnode i x hx
  obtain ⟨hcx, _⟩ := h.caps (List.mem_of_getElem? hx)
  have HSL := Lib.hid (Sl.of_own (h.way x (List.mem_of_getElem? hx)))
  have HN : Hid (x.A = none → x.d.ways.length = 0) := by
    intro hA
    rcases (h.way x (List.mem_of_getElem? hx)).2 with ⟨_, h0⟩ | ⟨g, cap, cur, hv, _⟩
    · exact h0
    · unfold Nh.row at hv
      rw [hA] at hv
      cases hv
  obtain ⟨m, hm⟩ : ∃ m, x.d.ways.length = m := ⟨_, rfl⟩
  rw [hm] at n2 hcx HSL HN hsm ⊢
  have q1 : decide ((i : Int) < 0) = false := by simp
  have q2 : decide ((i : Int) ≥ (n : Int)) = false := by simp; omega
  have q3 : decide (n ≤ i) = false := by simp; omega
  clear hnode h hx hm
  go_enter Tryd.func21, Tryd.ntmps21
  have HONE : Hid (∀ u ∈ waysC x.d.ways, u.oneCell' = true) := by
    intro u hu
    unfold waysC at hu
    obtain ⟨y, _, hy⟩ := List.mem_flatMap.1 hu
    simp only [wayC, List.mem_cons, List.not_mem_nil, or_false] at hy
    rcases hy with rfl | rfl | rfl <;> rfl
  go_wp2_with (at_builtin; refine wpList_append_sl (base := w.heap.size + 1 + 1) _ _ rfl _ _ _ rfl el_way2 _ 0 [] rfl (own_lit _ _ _ (by simp) (by simp)) rfl (((HSL.out.alloc (Nat.le_refl _) _).alloc (by simp) _).alloc (by simp; omega) _) HN.out HONE.out (by unfold maxLen; omega) (by omega) (by simp) (Below.refl _ _) ?_; intro v3 w3 hown3 hb3 _ _; obtain ⟨A3, c3, rfl, _⟩ := own_shape hown3; have HB3 := Lib.hid hb3; have HO3 := Lib.hid hown3; obtain ⟨k0, k1, hsz⟩ := three_blocks hb3; have e0 := cell_of_row w3 _ 0 _ _ (0, 0) k0; have e1 := cell_of_row w3 _ 1 _ _ (0, 0) k0; have e2 := cell_of_row w3 _ 2 _ _ (0, 0) k0; have f0 := cell_of_row w3 _ 0 _ _ (0, 0) k1; have f1 := cell_of_row w3 _ 1 _ _ (0, 0) k1; have f2 := cell_of_row w3 _ 2 _ _ (0, 0) k1; simp at e0 e1 e2 f0 f1 f2; have HK0 := Lib.hid k0; have g1 := free_at k1 2; have g0 := free_at k0 0; have g01 := free_at k0 1; have g02 := free_at k0 2; clear hb3 hown3 k0 k1)
  have hB : Below w.heap.size w w3 := (bnew (bnew (bnew (brefl w) _) _) _).trans (HB3.out.mono (by omega))
  have hO := HO3.out
  rw [Nat.zero_add, List.nil_append] at hO
  have hOO := own_lower (own_set (k := w.heap.size) (j := 2) (u := .slice A3 m c3) (own_set (k := w.heap.size) (j := 1) (u := .int .i64 x.d.out) (own_set (k := w.heap.size) (j := 0) (u := .bool x.d.fin) (own_set (k := w.heap.size + 1) (j := 2) (u := .slice A3 m c3) hO (by omega)) (by omega)) (by omega)) (by omega)) (show w.heap.size ≤ _ by omega)
  have hBB := below_set (k := w.heap.size) (j := 2) (u := .slice A3 m c3) (below_set (k := w.heap.size) (j := 1) (u := .int .i64 x.d.out) (below_set (k := w.heap.size) (j := 0) (u := .bool x.d.fin) (below_set (k := w.heap.size + 1) (j := 2) (u := .slice A3 m c3) hB (by omega) (Nat.le_refl _)) (Nat.le_refl _) (Nat.le_refl _)) (Nat.le_refl _) (Nat.le_refl _)) (Nat.le_refl _) (Nat.le_refl _)
  have k1 : (w3.setCell ⟨w.heap.size + 1, 2, none⟩ (.slice A3 m c3)).heap[w.heap.size]? = _ := (Below.heap_setCell _ _ _ _ (by simp)).trans HK0.out
  have k4 := blk_set (j := 2) (blk_set (j := 1) (blk_set (j := 0) k1 (.bool x.d.fin)) (.int .i64 x.d.out)) (.slice A3 m c3)
  have d0 := cell_of_row _ _ 0 _ _ (0, 0) k4
  have d1 := cell_of_row _ _ 1 _ _ (0, 0) k4
  have d2 := cell_of_row _ _ 2 _ _ (0, 0) k4
  simp at d0 d1 d2
  clear k1 k4 hO hB HO3 HB3 HK0
  generalize (((w3.setCell ⟨w.heap.size + 1, 2, none⟩ (.slice A3 m c3)).setCell ⟨w.heap.size, 0, none⟩ (.bool x.d.fin)).setCell ⟨w.heap.size, 1, none⟩ (.int .i64 x.d.out)).setCell ⟨w.heap.size, 2, none⟩ (.slice A3 m c3) = W4 at *
  exact bodyPost_ret (v := .tuple #[.agg #[.bool x.d.fin, .int .i64 x.d.out, .slice A3 m c3], .bool true]) (by simp [results, Tryd.results21, go_sem, d0, d1, d2]) rfl ⟨_, rfl, hOO, hBB⟩
end Go.Proofs.YtheickndnniomaaDoor
