/- dfa.alive in memory: rows of those that lead to each state, what is known to live, what is to be gone on from. -/
import Derived.Test.YtebdffabfimmkaaDoorMerged
import Derived.Test.YtebdffabfimmkaaDoorFam
import Derived.Test.YtebdffabfimmkaaDoorLive
import Derived.Test.YtebdffabfimmkaaDoorSmap
namespace Go.Proofs.YtebdffabfimmkaaDoor
open Go.RowKit

theorem el_int : Elem Tryd.prog 54 3 1 8 := Elem.mk_ Tryd.underlying54 (z := .int .i64 0) (by kernel_rfl) rfl (by omega)
/-- A block of cells of another type stays as a row grows. -/
theorem blk_kept {W W' : World} {b e s n k t : Nat} {v : Value} {xs : List Value} {cs : Array Value} {f : Nat × Nat} (ho : W.ownsRow b e s v n xs) (hg : W.grownBy W' v.ownBlock) (hk : W.heap[k]? = some (.cells cs t f)) (he : t ≠ e) : W'.heap[k]? = some (.cells cs t f) := by
  refine (hg.block k (Array.getElem?_eq_some_iff.1 hk).1 fun e' => ?_).trans hk
  rcases row_not_cells ho hk he with h | h
  · rw [h] at e'; cases e'
  · exact h e'.symm
/-- A store into a block of cells keeps another block. -/
theorem blk_other {W : World} {k b j : Nat} {o : Obj} {u : Value} (hk : W.heap[k]? = some o) (h : k ≠ b) : (W.setCell ⟨b, j, none⟩ u).heap[k]? = some o := (Below.heap_setCell _ _ _ k h).trans hk
/-- A row stays as a cell of a block of another type is set. -/
theorem own_other {W : World} {b e s n g j t : Nat} {v u : Value} {xs : List Value} {cs : Array Value} {f : Nat × Nat} (ho : W.ownsRow b e s v n xs) (hk : W.heap[g]? = some (.cells cs t f)) (he : t ≠ e) : (W.setCell ⟨g, j, none⟩ u).ownsRow b e s v n xs :=
  ho.kept (set_grown _ _ _) (row_not_cells ho hk he)
structure AlR (w W : World) (n bk ob : Nat) (F : List Rw) (L : List Bool) (T : Rw) : Prop where
  bel : Below w.heap.size w W
  len : F.length = n
  llen : L.length = n
  back : W.ownsRow w.heap.size 54 1 (.slice (some ⟨bk, 0, none⟩) n n) n (F.map Rw.val)
  out : W.ownsRow w.heap.size 4 1 (.slice (some ⟨ob, 0, none⟩) n n) n (L.map .bool)
  fam : Fam W w.heap.size (T :: F)
section
variable {w W W' : World} {n bk ob : Nat} {F : List Rw} {L : List Bool} {T : Rw}
theorem AlR.keep (h : AlR w W n bk ob F L T) (hb : Below W.heap.size W W') : AlR w W' n bk ob F L T :=
  ⟨bcall h.bel hb, h.len, h.llen, own_kept h.back hb, own_kept h.out hb, h.fam.below hb⟩
theorem own_blk {W : World} {b e s n g c : Nat} {xs : List Value} (h : W.ownsRow b e s (.slice (some ⟨g, 0, none⟩) n c) n xs) : b ≤ g ∧ g < W.heap.size ∧ ∃ cs, W.heap[g]? = some (.cells cs e (0, 0)) := by
  rcases h.2 with ⟨hv, _⟩ | ⟨g', cap, cur, hv, hb, hg, _⟩
  · cases hv
  · injection hv with hv _ _
    injection hv with hv
    injection hv with hv _ _
    subst hv
    exact ⟨hb, (Array.getElem?_eq_some_iff.1 hg).1, _, hg⟩
theorem own_cell {W : World} {b e n g c j : Nat} {u : Value} {xs : List Value} (h : W.ownsRow b e 1 (.slice (some ⟨g, 0, none⟩) n c) n xs) (hu : xs[j]? = some u) : W.cell? ⟨g, j, none⟩ = some u := by
  have := h.cells (g := g) rfl j u hu
  rwa [Addr.add_lit, Nat.zero_add] at this
theorem own_free {W : World} {b e s n g c : Nat} {xs : List Value} (h : W.ownsRow b e s (.slice (some ⟨g, 0, none⟩) n c) n xs) (j : Nat) : W.frozen? ⟨g, j, none⟩ = false := by
  obtain ⟨_, _, cs, hg⟩ := own_blk h
  exact free_at hg j
theorem AlR.backAt (h : AlR w W n bk ob F L T) {t : Nat} {f : Rw} (hf : F[t]? = some f) : W.cell? ⟨bk, t, none⟩ = some f.val := own_cell h.back (by rw [List.getElem?_map, hf]; rfl)
theorem AlR.outAt (h : AlR w W n bk ob F L T) {t : Nat} {b : Bool} (hf : L[t]? = some b) : W.cell? ⟨ob, t, none⟩ = some (.bool b) := own_cell h.out (by rw [List.getElem?_map, hf]; rfl)
theorem AlR.frow (h : AlR w W n bk ob F L T) {t : Nat} {f : Rw} (hf : F[t]? = some f) : f.own W w.heap.size := h.fam.own f (List.mem_cons_of_mem _ (List.mem_of_getElem? hf))
theorem AlR.todo (h : AlR w W n bk ob F L T) : T.own W w.heap.size := h.fam.own T (List.mem_cons_self ..)
/-- A number more behind a row of back. -/
theorem AlR.growB (h : AlR w W n bk ob F L T) {t : Nat} {f y : Rw} (hf : F[t]? = some f) (hg : W.grownBy W' f.val.ownBlock) (hy : y.own W' w.heap.size) (hm : y.val.ownBlock = f.val.ownBlock ∨ ∃ g, y.val.ownBlock = some g ∧ W.heap.size ≤ g) :
    AlR w (W'.setCell ⟨bk, t, none⟩ y.val) n bk ob (F.set t y) L T ∧ W'.cell? ⟨bk, t, none⟩ = some f.val ∧ W'.frozen? ⟨bk, t, none⟩ = false ∧ bk < W'.heap.size ∧
      ∀ (k : Nat) (cs : Array Value) (e : TypeId) (z : Nat × Nat), e ≠ 3 → e ≠ 54 → W.heap[k]? = some (.cells cs e z) → W'.heap[k]? = some (.cells cs e z) ∧ (W'.setCell ⟨bk, t, none⟩ y.val).heap[k]? = some (.cells cs e z) := by
  have hr := h.frow hf
  have hb' : W'.ownsRow w.heap.size 54 1 (.slice (some ⟨bk, 0, none⟩) n n) n (F.map Rw.val) := h.back.kept hg (own_types hr h.back (by decide))
  have ho' : W'.ownsRow w.heap.size 4 1 (.slice (some ⟨ob, 0, none⟩) n n) n (L.map .bool) := h.out.kept hg (own_types hr h.out (by decide))
  obtain ⟨q1, q2, cs, q3⟩ := own_blk hb'
  have hfam : Fam W' w.heap.size ((T :: F).set (t + 1) y) := h.fam.set (by simpa using hf) hg hy hm
  have hset : (F.set t y).map Rw.val = (F.map Rw.val).set t y.val := by rw [List.map_set]
  have hlt : ∀ q, f.val.ownBlock = some q → w.heap.size ≤ q := fun q hq => (hr.lt q hq).1
  refine ⟨⟨?_, by rw [List.length_set]; exact h.len, h.llen, ?_, own_other ho' q3 (by decide), hfam.other q3 (by decide)⟩, ?_, free_at q3 _, q2, fun k cs' e z he1 he2 hk => ?_⟩
  · exact below_set (h.bel.grown hg h.bel.size hlt) q1 (Nat.le_refl _)
  · rw [hset]; exact own_put hb'
  · exact own_cell hb' (by rw [List.getElem?_map, hf]; rfl)
  · have hk' := blk_kept hr hg hk he1
    refine ⟨hk', blk_other hk' fun e' => ?_⟩
    subst e'
    rw [q3] at hk'
    injection hk' with hk'
    injection hk' with _ hk' _
    exact he2 hk'.symm
/-- A number more to be gone on from. -/
theorem AlR.growT (h : AlR w W n bk ob F L T) {y : Rw} (hg : W.grownBy W' T.val.ownBlock) (hy : y.own W' w.heap.size) (hm : y.val.ownBlock = T.val.ownBlock ∨ ∃ g, y.val.ownBlock = some g ∧ W.heap.size ≤ g) :
    AlR w W' n bk ob F L y ∧ ∀ (k : Nat) (cs : Array Value) (e : TypeId) (z : Nat × Nat), e ≠ 3 → W.heap[k]? = some (.cells cs e z) → W'.heap[k]? = some (.cells cs e z) := by
  have hr := h.todo
  have hlt : ∀ q, T.val.ownBlock = some q → w.heap.size ≤ q := fun q hq => (hr.lt q hq).1
  exact ⟨⟨h.bel.grown hg h.bel.size hlt, h.len, h.llen, h.back.kept hg (own_types hr h.back (by decide)), h.out.kept hg (own_types hr h.out (by decide)), h.fam.set (t := 0) rfl hg hy hm⟩, fun k cs e z he hk => blk_kept hr hg hk he⟩
/-- One that is known to live. -/
theorem AlR.setO (h : AlR w W n bk ob F L T) {t : Nat} :
    AlR w (W.setCell ⟨ob, t, none⟩ (.bool true)) n bk ob F (L.set t true) T ∧ W.frozen? ⟨ob, t, none⟩ = false ∧ ob < W.heap.size ∧
      ∀ (k : Nat) (cs : Array Value) (e : TypeId) (z : Nat × Nat), e ≠ 4 → W.heap[k]? = some (.cells cs e z) → (W.setCell ⟨ob, t, none⟩ (.bool true)).heap[k]? = some (.cells cs e z) := by
  obtain ⟨q1, q2, cs, q3⟩ := own_blk h.out
  refine ⟨⟨below_set h.bel q1 (Nat.le_refl _), h.len, by rw [List.length_set]; exact h.llen, own_other h.back q3 (by decide), ?_, h.fam.other q3 (by decide)⟩, free_at q3 _, q2, fun k cs' e z he hk => blk_other hk fun e' => ?_⟩
  · rw [List.map_set]; exact own_put h.out
  · subst e'
    rw [q3] at hk
    injection hk with hk
    injection hk with _ hk _
    exact he hk.symm
/-- The last of those to be gone on from is taken. -/
theorem AlR.cutT (h : AlR w W n bk ob F L T) {A : Option Addr} {c : Nat} {l : List Int} {x : Int} (hT : T = ⟨A, c, l ++ [x]⟩) : AlR w W n bk ob F L ⟨A, c, l⟩ := by
  subst hT
  have hr := h.todo
  refine ⟨h.bel, h.len, h.llen, h.back, h.out, ⟨fun z hz => ?_, ?_⟩⟩
  · rcases List.mem_cons.1 hz with rfl | hz
    · have hr' : W.ownsRow w.heap.size 3 1 (.slice A (l ++ [x]).length c) (l ++ [x]).length ((l ++ [x]).map (.int .i64)) := hr
      have := own_cut (k := l.length) hr' (by simp) (fun e => by
        rcases hr'.2 with ⟨_, h0⟩ | ⟨g, _, _, hv, _⟩
        · simp at h0
        · injection hv with hv _ _
          rw [e] at hv
          cases hv)
      rw [Nat.mul_one, List.map_append, List.take_left' (by simp)] at this
      exact this
    · exact h.fam.own z (List.mem_cons_of_mem _ hz)
  · obtain ⟨h1, h2⟩ := List.pairwise_cons.1 h.fam.ap
    refine List.pairwise_cons.2 ⟨fun z hz => ?_, h2⟩
    have hv : (Rw.val ⟨A, c, l⟩).ownBlock = (Rw.val ⟨A, c, l ++ [x]⟩).ownBlock := by
      cases A <;> rfl
    have := h1 z hz
    unfold Ap at this ⊢
    rw [hv]
    exact this
end
/-- As the rows are made. -/
theorem AlR.start (w : World) (n : Nat) (hn : n ≤ 1000000) {W : World} (hW : W = ((w.alloc (.cells (madeCells #[.slice none 0 0] n) 54)).alloc (.cells #[] 3)).alloc (.cells (madeCells #[.bool false] n) 4)) :
    AlR w W n w.heap.size (w.heap.size + 1 + 1) (List.replicate n ⟨none, 0, []⟩) (List.replicate n false) ⟨some ⟨w.heap.size + 1, 0, none⟩, 0, []⟩ := by
  subst hW
  have b0 := bnew (brefl w) (.cells (madeCells #[.slice none 0 0] n) 54)
  have b1 := bnew b0 (.cells #[] 3)
  have b2 := bnew b1 (.cells (madeCells #[.bool false] n) 4)
  have o0 := own_made w (.slice none 0 0) n (by omega) 54 rfl (Nat.le_refl _)
  have o1 := own_kept (own_kept o0 (bnew (brefl _) (.cells #[] 3))) (bnew (brefl _) (.cells (madeCells #[.bool false] n) 4))
  refine ⟨b2, by simp, by simp, ?_, ?_, ⟨fun x hx => ?_, List.pairwise_cons.2 ⟨fun x hx => ?_, ?_⟩⟩⟩
  · have e : (List.replicate n (⟨none, 0, []⟩ : Rw)).map Rw.val = List.replicate n (.slice none 0 0) := by rw [List.map_replicate]; rfl
    rw [e]
    exact o1
  · rw [List.map_replicate]
    exact own_made _ (.bool false) n (by omega) 4 (by simp) b1.size
  · rcases List.mem_cons.1 hx with rfl | hx
    · have h2 : (w.alloc (.cells (madeCells #[.slice none 0 0] n) 54)).alloc (.cells #[] 3) |>.ownsRow w.heap.size 3 1 (.slice (some ⟨w.heap.size + 1, 0, none⟩) 0 0) 0 [] := own_lit _ 3 1 (by simp) b0.size
      exact own_kept h2 (bnew (brefl _) _)
    · rw [(List.mem_replicate.1 hx).2]
      exact ⟨rfl, .inl ⟨rfl, rfl⟩⟩
  · rw [(List.mem_replicate.1 hx).2]
    exact .inr (.inl rfl)
  · rw [List.pairwise_replicate]
    exact .inr (.inl rfl)
end Go.Proofs.YtebdffabfimmkaaDoor
