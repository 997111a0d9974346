/- Maps from numbers to numbers, in memory. -/
import Derived.Test.YtclahhkcbkpofaaDoorHWild16
import Derived.WalkArith
import Derived.Test.YtclahhkcbkpofaaDoorHWild11
import Derived.Test.YtclahhkcbkpofaaDoorHWild8
import Derived.Deep.OwnRows
import Derived.Test.YtclahhkcbkpofaaDoorHWild12
import Derived.Test.YtclahhkcbkpofaaDoorHWild15
namespace Go.Proofs.YtclahhkcbkpofaaDoor
open Go.RowKit Go.Maps

theorem lawI : Keyed Tryd.prog 3 := int_keyed Tryd.underlying3
abbrev iiMap {H : Type} (w : World) (b n : Nat) (N : DataW H) : Prop := w.ownsMap Tryd.prog 3 (plainElem Tryd.prog 3) b n N
/-- What the map has at a number; 0 if there is nothing. -/
def numI {H : Type} (N : DataW H) (k : Int) : Int := intOfD (N.atKey (.int .i64 k) (.lit (.int .i64 0)))
def hasI {H : Type} (N : DataW H) (k : Int) : Bool := Maps.has N (.int .i64 k)

set_option maxRecDepth 100000 in
theorem look_ii {H : Type} {w : World} {b n : Nat} {N : DataW H} (h : iiMap w b n N) (k : Int) (h0 : -9223372036854775808 ≤ k) (h1 : k ≤ 9223372036854775807) :
    (Instr.lookup 118 (.map (some b)) (.int .i64 k) true).run Tryd.prog w = .ok (.tuple #[.int .i64 (numI N k), .bool (hasI N k)]) w := by
  obtain ⟨v, ps, hrun, hR⟩ := h.look_ok lawI Tryd.underlying118 (zeroI w) (plainElem_int Tryd.underlying3 (a := 0) (by decide)) (keyOf_int_mk Tryd.underlying3 (WalkArith.wf_i64 ⟨h0, h1⟩))
  obtain ⟨c, rfl, hc, hw⟩ := plainElem_int_inv Tryd.underlying3 hR
  injection hc with hc _
  have e : numI N k = c := by
    unfold numI
    rw [hc]
    rfl
  rw [e]
  exact hrun
set_option maxRecDepth 100000 in
theorem look_ii1 {H : Type} {w : World} {b n : Nat} {N : DataW H} (h : iiMap w b n N) (k : Int) (h0 : -9223372036854775808 ≤ k) (h1 : k ≤ 9223372036854775807) :
    (Instr.lookup 118 (.map (some b)) (.int .i64 k) false).run Tryd.prog w = .ok (.int .i64 (numI N k)) w := by
  obtain ⟨c, hrun, hc, _⟩ := h.lookup_int lawI Tryd.underlying118 Tryd.underlying3 (zeroI w) (keyOf_int_mk Tryd.underlying3 (WalkArith.wf_i64 ⟨h0, h1⟩))
  have e : numI N k = c := by
    unfold numI
    rw [hc]
    rfl
  rw [e]
  exact hrun
theorem numI_put {N : DataW Unit} (h : IsMap N) (k z j : Int) : numI (N.put (.int .i64 k) (.lit (.int .i64 z))) j = if j = k then z else numI N j := by
  unfold numI
  by_cases e : j = k
  · rw [if_pos e, e, atKey_put_same h (by simp [Go.WideAt.IsKeyLit])]
    rfl
  · rw [if_neg e, atKey_put_other (by simpa using e)]
theorem hasI_put {N : DataW Unit} (h : IsMap N) (k z j : Int) : hasI (N.put (.int .i64 k) (.lit (.int .i64 z))) j = (decide (j = k) || hasI N j) := by
  unfold hasI
  by_cases e : j = k
  · rw [e, has_put_same h (by simp [Go.WideAt.IsKeyLit])]
    simp
  · rw [has_put_other (by simpa using e)]
    simp [e]
theorem row_not_mapI {H : Type} {W : World} {b e s n kb m : Nat} {x : Value} {xs : List Value} {N : DataW H} (h : W.ownsRow b e s x n xs) (hm : iiMap W kb m N) : x.ownBlock = none ∨ x.ownBlock ≠ some kb := by
  rcases h.2 with ⟨rfl, _⟩ | ⟨g, cap, cur, rfl, _, hg, _⟩
  · exact .inl rfl
  · refine .inr fun e => ?_
    simp only [Value.ownBlock, Option.some.injEq] at e
    subst e
    obtain ⟨es, clock, hb, _⟩ := hm
    rw [hg] at hb
    cases hb
theorem mapI_keep {w w' : World} {b n : Nat} {N : DataW Unit} (h : iiMap w b n N) (hb : Below w.heap.size w w') : iiMap w' b n N := h.kept (grown_below hb) (by simp)
end Go.Proofs.YtclahhkcbkpofaaDoor
/- Rows of the call's own, of one type, no two in one block. -/
namespace Go.Proofs.YtclahhkcbkpofaaDoor
open Go.RowKit

structure GRow where
  v : Value
  n : Nat
  xs : List Value
def GRow.nil : GRow := ⟨.slice none 0 0, 0, []⟩
def GRow.own (W : World) (base e s : Nat) (x : GRow) : Prop := W.ownsRow base e s x.v x.n x.xs
theorem GRow.own_nil (W : World) (base e s : Nat) : GRow.nil.own W base e s := ⟨by simp [GRow.nil], .inl ⟨rfl, rfl⟩⟩
/-- Two rows lie apart. -/
def GAp (x y : GRow) : Prop := x.v.ownBlock = none ∨ y.v.ownBlock = none ∨ x.v.ownBlock ≠ y.v.ownBlock
theorem GAp.symm {x y : GRow} (h : GAp x y) : GAp y x := by
  rcases h with h | h | h
  · exact .inr (.inl h)
  · exact .inl h
  · exact .inr (.inr fun e => h e.symm)
structure GFam (W : World) (base e s : Nat) (F : List GRow) : Prop where
  own : ∀ x ∈ F, x.own W base e s
  ap : F.Pairwise GAp
section
variable {W W2 : World} {base e s : Nat} {F a b : List GRow} {x y : GRow}
theorem GFam.below (h : GFam W base e s F) (hb : Below W.heap.size W W2) : GFam W2 base e s F := ⟨fun x hx => own_kept (h.own x hx) hb, h.ap⟩
theorem GAp.kept {x z : GRow} (h : GAp z x) : z.v.ownBlock = none ∨ z.v.ownBlock ≠ x.v.ownBlock := by
  rcases h with h | h | h
  · exact .inl h
  · cases hz : z.v.ownBlock with
    | none => exact .inl rfl
    | some g => exact .inr (by rw [h]; simp)
  · exact .inr h
theorem GFam.grow (h : GFam W base e s (a ++ x :: b)) (hg : W.grownBy W2 x.v.ownBlock) (hy : y.own W2 base e s) (hm : y.v.ownBlock = x.v.ownBlock ∨ ∃ g, y.v.ownBlock = some g ∧ W.heap.size ≤ g) : GFam W2 base e s (a ++ y :: b) := by
  obtain ⟨p1, p2, p3⟩ := List.pairwise_append.1 h.ap
  obtain ⟨p4, p5⟩ := List.pairwise_cons.1 p2
  have hzx : ∀ z, z ∈ a ∨ z ∈ b → GAp z x := fun z hz => by
    rcases hz with hz | hz
    · exact p3 z hz x (List.mem_cons_self ..)
    · exact (p4 z hz).symm
  have hown : ∀ z, z ∈ a ∨ z ∈ b → z.own W base e s := fun z hz => h.own z (by
    rcases hz with hz | hz
    · exact List.mem_append_left _ hz
    · exact List.mem_append_right _ (List.mem_cons_of_mem _ hz))
  have hzy : ∀ z, z ∈ a ∨ z ∈ b → GAp z y := fun z hz => by
    rcases hm with hm | ⟨g, hm, hgs⟩
    · have := hzx z hz
      unfold GAp at this ⊢
      rw [hm]
      exact this
    · cases hzb : z.v.ownBlock with
      | none => exact .inl hzb
      | some k =>
        refine .inr (.inr ?_)
        rw [hzb, hm]
        intro e
        injection e with e
        have := (World.ownsRow.lt (hown z hz) k hzb).2
        omega
  refine ⟨fun z hz => ?_, List.pairwise_append.2 ⟨p1, List.pairwise_cons.2 ⟨fun z hz => (hzy z (.inr hz)).symm, p5⟩, fun z hz u hu => ?_⟩⟩
  · rcases List.mem_append.1 hz with hz | hz
    · exact World.ownsRow.kept (hown z (.inl hz)) hg (hzx z (.inl hz)).kept
    · rcases List.mem_cons.1 hz with rfl | hz
      · exact hy
      · exact World.ownsRow.kept (hown z (.inr hz)) hg (hzx z (.inr hz)).kept
  · rcases List.mem_cons.1 hu with rfl | hu
    · exact hzy z (.inl hz)
    · exact p3 z hz u (List.mem_cons_of_mem _ hu)
/-- The row ahead grows. -/
theorem GFam.head (h : GFam W base e s (x :: F)) (hg : W.grownBy W2 x.v.ownBlock) (hy : y.own W2 base e s) (hm : y.v.ownBlock = x.v.ownBlock ∨ ∃ g, y.v.ownBlock = some g ∧ W.heap.size ≤ g) : GFam W2 base e s (y :: F) := GFam.grow (a := []) h hg hy hm
/-- What grows another row, or changes another block, keeps them. -/
theorem GFam.kept {row : Option Nat} (h : GFam W base e s F) (hg : W.grownBy W2 row) (hn : ∀ x ∈ F, x.v.ownBlock = none ∨ x.v.ownBlock ≠ row) : GFam W2 base e s F := ⟨fun x hx => World.ownsRow.kept (h.own x hx) hg (hn x hx), h.ap⟩
theorem GFam.nil (W : World) (base e s : Nat) : GFam W base e s [] := ⟨fun _ hx => absurd hx List.not_mem_nil, List.Pairwise.nil⟩
/-- A row that is nothing yet. -/
theorem GFam.cons_nil (h : GFam W base e s F) : GFam W base e s (GRow.nil :: F) := ⟨fun x hx => by
  rcases List.mem_cons.1 hx with rfl | hx
  · exact GRow.own_nil _ _ _ _
  · exact h.own x hx, List.pairwise_cons.2 ⟨fun z _ => .inl rfl, h.ap⟩⟩
/-- The row ahead is put behind the others. -/
theorem GFam.turn (h : GFam W base e s (x :: F)) : GFam W base e s (F ++ [x]) := by
  obtain ⟨h1, h2⟩ := List.pairwise_cons.1 h.ap
  refine ⟨fun z hz => h.own z ?_, List.pairwise_append.2 ⟨h2, List.pairwise_singleton _ _, fun z hz u hu => ?_⟩⟩
  · rcases List.mem_append.1 hz with hz | hz
    · exact List.mem_cons_of_mem _ hz
    · rw [List.mem_singleton.1 hz]; exact List.mem_cons_self ..
  · rw [List.mem_singleton.1 hu]
    exact (h1 z hz).symm
theorem GFam.tail (h : GFam W base e s (x :: F)) : GFam W base e s F := ⟨fun z hz => h.own z (List.mem_cons_of_mem _ hz), (List.pairwise_cons.1 h.ap).2⟩
end
theorem own_types' {w : World} {b1 b2 e1 e2 s1 s2 n1 n2 : Nat} {v1 v2 : Value} {x1 x2 : List Value} (h1 : w.ownsRow b1 e1 s1 v1 n1 x1) (h2 : w.ownsRow b2 e2 s2 v2 n2 x2) (he : e2 ≠ e1) : v2.ownBlock = none ∨ v2.ownBlock ≠ v1.ownBlock := own_types h1 h2 fun e => he e.symm
/-- A row that a call has made. -/
theorem GFam.fresh {W W2 : World} {base e s : Nat} {F : List GRow} {y : GRow} (h : GFam W base e s F) (hb : Below W.heap.size W W2) (hbase : base ≤ W.heap.size) (hy : y.own W2 W.heap.size e s) : GFam W2 base e s (y :: F) := by
  refine ⟨fun z hz => ?_, List.pairwise_cons.2 ⟨fun z hz => ?_, h.ap⟩⟩
  · rcases List.mem_cons.1 hz with rfl | hz
    · exact own_lower hy hbase
    · exact own_kept (h.own z hz) hb
  · have := own_apart (h.own z hz) hy (Nat.le_refl _)
    rcases this with h1 | h1
    · exact .inl h1
    · exact .inr (.inr h1)
/-- Two rows change places. -/
theorem GFam.swap {W : World} {base e s : Nat} {F : List GRow} {x y : GRow} (h : GFam W base e s (x :: y :: F)) : GFam W base e s (y :: x :: F) := by
  obtain ⟨h1, h2⟩ := List.pairwise_cons.1 h.ap
  obtain ⟨h3, h4⟩ := List.pairwise_cons.1 h2
  refine ⟨fun z hz => h.own z (by simp only [List.mem_cons] at hz ⊢; rcases hz with h | h | h <;> simp [h]), List.pairwise_cons.2 ⟨fun z hz => ?_, List.pairwise_cons.2 ⟨fun z hz => h1 z (List.mem_cons_of_mem _ hz), h4⟩⟩⟩
  rcases List.mem_cons.1 hz with rfl | hz
  · exact (h1 y (List.mem_cons_self ..)).symm
  · exact h3 z hz
/-- A block of a map is no block of cells. -/
theorem map_not_cells {H : Type} {W : World} {kb m k t : Nat} {f : Nat × Nat} {cs : Array Value} {kt : TypeId} {R : Value → Option (DataW H × List MemPlace)} {N : DataW H} (hm : W.ownsMap Tryd.prog kt R kb m N) (hk : W.heap[k]? = some (.cells cs t f)) : k ≠ kb := by
  intro e
  subst e
  obtain ⟨es, clock, hb, _⟩ := hm
  rw [hk] at hb
  cases hb
theorem row_not_map' {H : Type} {W : World} {b e s n kb m : Nat} {x : Value} {xs : List Value} {kt : TypeId} {R : Value → Option (DataW H × List MemPlace)} {N : DataW H} (h : W.ownsRow b e s x n xs) (hm : W.ownsMap Tryd.prog kt R kb m N) : x.ownBlock = none ∨ x.ownBlock ≠ some kb := by
  rcases h.2 with ⟨rfl, _⟩ | ⟨g, cap, cur, rfl, _, hg, _⟩
  · exact .inl rfl
  · refine .inr fun e => ?_
    simp only [Value.ownBlock, Option.some.injEq] at e
    exact map_not_cells hm hg e
end Go.Proofs.YtclahhkcbkpofaaDoor
/- make of rows of one cell. -/
namespace Go.Proofs.YtclahhkcbkpofaaDoor
open Go.RowKit

theorem made_list (z : Value) : ∀ n, (madeCells #[z] n).toList = List.replicate n z := by
  intro n
  apply List.ext_getElem?
  intro j
  by_cases hj : j < n
  · simp [madeCells, hj, Nat.mod_one]
  · simp [madeCells, hj]
theorem make_int (n : Nat) (hn : n ≤ 1099511627776) (w : World) : (Instr.makeSlice 23 (.int .i64 (n : Int)) (.int .i64 (n : Int))).run Tryd.prog w = .ok (.slice (some ⟨w.heap.size, 0, none⟩) n n) (w.alloc (.cells (madeCells #[.int .i64 0] n) 3)) :=
  run_make_row' 23 3 (.int .i64 0) 8 Tryd.underlying23 (by kernel_rfl) rfl .i64 .i64 n (by omega) (by omega) w
theorem make_bool (n : Nat) (hn : n ≤ 1099511627776) (w : World) : (Instr.makeSlice 64 (.int .i64 (n : Int)) (.int .i64 (n : Int))).run Tryd.prog w = .ok (.slice (some ⟨w.heap.size, 0, none⟩) n n) (w.alloc (.cells (madeCells #[.bool false] n) 4)) :=
  run_make_row' 64 4 (.bool false) 1 Tryd.underlying64 (by kernel_rfl) rfl .i64 .i64 n (by omega) (by omega) w
theorem make_ints (n : Nat) (hn : n ≤ 1099511627776) (w : World) : (Instr.makeSlice 70 (.int .i64 (n : Int)) (.int .i64 (n : Int))).run Tryd.prog w = .ok (.slice (some ⟨w.heap.size, 0, none⟩) n n) (w.alloc (.cells (madeCells #[.slice none 0 0] n) 23)) :=
  run_make_row' 70 23 (.slice none 0 0) 24 Tryd.underlying70 (by kernel_rfl) rfl .i64 .i64 n (by omega) (by omega) w
theorem own_made (w : World) (z : Value) (n : Nat) (hn : n ≤ 1099511627776) (e : TypeId) {nb : Nat} (h : nb = w.heap.size) {base : Nat} (hb : base ≤ w.heap.size) : (w.alloc (.cells (madeCells #[z] n) e)).ownsRow base e 1 (.slice (some ⟨nb, 0, none⟩) n n) n (List.replicate n z) := by
  have hl := made_list z n
  have h1 := own_new w (madeCells #[z] n) e 1 n (by rw [← Array.length_toList, hl, List.length_replicate, Nat.mul_one]) (by unfold maxLen; omega) h hb
  rw [hl] at h1
  exact h1
end Go.Proofs.YtclahhkcbkpofaaDoor
/- Rows of numbers of the call's own, no two in one block. -/
namespace Go.Proofs.YtclahhkcbkpofaaDoor
open Go.RowKit

structure Rw where
  A : Option Addr
  c : Nat
  l : List Int
def Rw.val (x : Rw) : Value := .slice x.A x.l.length x.c
def Rw.own (W : World) (base : Nat) (x : Rw) : Prop := W.ownsRow base 3 1 x.val x.l.length (x.l.map (.int .i64))
/-- Two rows lie apart. -/
def Ap (x y : Rw) : Prop := x.val.ownBlock = none ∨ y.val.ownBlock = none ∨ x.val.ownBlock ≠ y.val.ownBlock
theorem Ap.symm {x y : Rw} (h : Ap x y) : Ap y x := by
  rcases h with h | h | h
  · exact .inr (.inl h)
  · exact .inl h
  · exact .inr (.inr fun e => h e.symm)
structure Fam (W : World) (base : Nat) (F : List Rw) : Prop where
  own : ∀ x ∈ F, x.own W base
  ap : F.Pairwise Ap
theorem Fam.below {W W' : World} {base : Nat} {F : List Rw} (h : Fam W base F) (hb : Below W.heap.size W W') : Fam W' base F := ⟨fun x hx => own_kept (h.own x hx) hb, h.ap⟩
theorem Ap.kept {x z : Rw} (h : Ap z x) : z.val.ownBlock = none ∨ z.val.ownBlock ≠ x.val.ownBlock := by
  rcases h with h | h | h
  · exact .inl h
  · cases hz : z.val.ownBlock with
    | none => exact .inl rfl
    | some g => exact .inr (by rw [h]; simp)
  · exact .inr h
theorem Fam.grow {W W2 : World} {base : Nat} {a b : List Rw} {x y : Rw} (h : Fam W base (a ++ x :: b)) (hg : W.grownBy W2 x.val.ownBlock) (hy : y.own W2 base) (hm : y.val.ownBlock = x.val.ownBlock ∨ ∃ g, y.val.ownBlock = some g ∧ W.heap.size ≤ g) : Fam W2 base (a ++ y :: b) := by
  obtain ⟨p1, p2, p3⟩ := List.pairwise_append.1 h.ap
  obtain ⟨p4, p5⟩ := List.pairwise_cons.1 p2
  have hzx : ∀ z, z ∈ a ∨ z ∈ b → Ap z x := fun z hz => by
    rcases hz with hz | hz
    · exact p3 z hz x (List.mem_cons_self ..)
    · exact (p4 z hz).symm
  have hzy : ∀ z, z ∈ a ∨ z ∈ b → Ap z y := fun z hz => by
    have hown : z.own W base := h.own z (by
      rcases hz with hz | hz
      · exact List.mem_append_left _ hz
      · exact List.mem_append_right _ (List.mem_cons_of_mem _ hz))
    rcases hm with hm | ⟨g, hm, hgs⟩
    · have := hzx z hz
      unfold Ap at this ⊢
      rw [hm]
      exact this
    · cases hzb : z.val.ownBlock with
      | none => exact .inl hzb
      | some k =>
        refine .inr (.inr ?_)
        rw [hzb, hm]
        intro e
        injection e with e
        have := (World.ownsRow.lt hown k hzb).2
        omega
  refine ⟨fun z hz => ?_, List.pairwise_append.2 ⟨p1, List.pairwise_cons.2 ⟨fun z hz => (hzy z (.inr hz)).symm, p5⟩, fun z hz u hu => ?_⟩⟩
  · have keep : ∀ z, z ∈ a ∨ z ∈ b → z.own W2 base := fun z hz => by
      have hown : z.own W base := h.own z (by
        rcases hz with hz | hz
        · exact List.mem_append_left _ hz
        · exact List.mem_append_right _ (List.mem_cons_of_mem _ hz))
      exact World.ownsRow.kept hown hg (hzx z hz).kept
    rcases List.mem_append.1 hz with hz | hz
    · exact keep z (.inl hz)
    · rcases List.mem_cons.1 hz with rfl | hz
      · exact hy
      · exact keep z (.inr hz)
  · rcases List.mem_cons.1 hu with rfl | hu
    · exact hzy z (.inl hz)
    · exact p3 z hz u (List.mem_cons_of_mem _ hu)
theorem split_at {α : Type} {F : List α} {t : Nat} {x : α} (h : F[t]? = some x) : F = F.take t ++ x :: F.drop (t + 1) := by
  obtain ⟨h1, h2⟩ := List.getElem?_eq_some_iff.1 h
  rw [← h2, ← List.drop_eq_getElem_cons h1, List.take_append_drop]
theorem set_split {α : Type} {F : List α} {t : Nat} {x y : α} (h : F[t]? = some x) : F.set t y = F.take t ++ y :: F.drop (t + 1) := by
  obtain ⟨h1, _⟩ := List.getElem?_eq_some_iff.1 h
  exact List.set_eq_take_append_cons_drop.trans (if_pos h1)
theorem Fam.set {W W2 : World} {base : Nat} {F : List Rw} {t : Nat} {x y : Rw} (h : Fam W base F) (ht : F[t]? = some x) (hg : W.grownBy W2 x.val.ownBlock) (hy : y.own W2 base) (hm : y.val.ownBlock = x.val.ownBlock ∨ ∃ g, y.val.ownBlock = some g ∧ W.heap.size ≤ g) : Fam W2 base (F.set t y) := by
  rw [set_split ht]
  rw [split_at ht] at h
  exact h.grow hg hy hm
/-- A store into a block that holds no numbers. -/
theorem Fam.other {W : World} {base g j : Nat} {F : List Rw} {u : Value} {cs : Array Value} {t : TypeId} {f : Nat × Nat} (h : Fam W base F) (hb : W.heap[g]? = some (.cells cs t f)) (ht : t ≠ 3) : Fam (W.setCell ⟨g, j, none⟩ u) base F := by
  refine ⟨fun x hx => World.ownsRow.kept (h.own x hx) (set_grown _ _ _) ?_, h.ap⟩
  rcases (h.own x hx).2 with ⟨hv, _⟩ | ⟨k, cap, cur, hv, _, hg, _⟩
  · rw [hv]; exact .inl rfl
  · rw [hv]
    refine .inr fun e => ?_
    simp only [Value.ownBlock, Option.some.injEq] at e
    subst e
    rw [hg] at hb
    injection hb with hb
    injection hb with _ hb _
    exact ht hb.symm
/-- A row that is cut short. -/
theorem own_cut {W : World} {base e s n k c : Nat} {A : Option Addr} {xs : List Value} (h : W.ownsRow base e s (.slice A n c) n xs) (hk : k ≤ n) (hn : A ≠ none) : W.ownsRow base e s (.slice A k c) k (xs.take (k * s)) := by
  refine ⟨by rw [List.length_take, h.1, Nat.min_eq_left (Nat.mul_le_mul_right _ hk)], ?_⟩
  rcases h.2 with ⟨hv, _⟩ | ⟨g, cap, cur, hv, hb, hg, h1, h2, h3, h4⟩
  · injection hv with hv _ _
    exact absurd hv hn
  · injection hv with hv1 _ hv3
    subst hv1 hv3
    refine .inr ⟨g, c, cur, rfl, hb, hg, Nat.le_trans hk h1, h2, h3, ?_⟩
    rw [← h4, List.take_take, Nat.min_eq_left (Nat.mul_le_mul_right _ hk)]
end Go.Proofs.YtclahhkcbkpofaaDoor
/- dfa.alive in memory: rows of those that lead to each state, what is known to live, what is to be gone on from. -/
namespace Go.Proofs.YtclahhkcbkpofaaDoor
open Go.RowKit

theorem el_int : Elem Tryd.prog 23 3 1 8 := Elem.mk_ Tryd.underlying23 (z := .int .i64 0) (by kernel_rfl) rfl (by omega)
/-- A block of cells of another type stays as a row grows. -/
theorem blk_kept {W W' : World} {b e s n k t : Nat} {v : Value} {xs : List Value} {cs : Array Value} {f : Nat × Nat} (ho : W.ownsRow b e s v n xs) (hg : W.grownBy W' v.ownBlock) (hk : W.heap[k]? = some (.cells cs t f)) (he : t ≠ e) : W'.heap[k]? = some (.cells cs t f) := by
  refine (hg.block k (Array.getElem?_eq_some_iff.1 hk).1 fun e' => ?_).trans hk
  rcases row_not_cells ho hk he with h | h
  · rw [h] at e'; cases e'
  · exact h e'.symm
/-- A store into a block of cells keeps another block. -/
theorem blk_other {W : World} {k b j : Nat} {o : Obj} {u : Value} (hk : W.heap[k]? = some o) (h : k ≠ b) : (W.setCell ⟨b, j, none⟩ u).heap[k]? = some o := (Below.heap_setCell _ _ _ k h).trans hk
/-- A row stays as a cell of a block of another type is set. -/
theorem own_other {W : World} {b e s n g j t : Nat} {v u : Value} {xs : List Value} {cs : Array Value} {f : Nat × Nat} (ho : W.ownsRow b e s v n xs) (hk : W.heap[g]? = some (.cells cs t f)) (he : t ≠ e) : (W.setCell ⟨g, j, none⟩ u).ownsRow b e s v n xs :=
  ho.kept (set_grown _ _ _) (row_not_cells ho hk he)
structure AlR (w W : World) (n bk ob : Nat) (F : List Rw) (L : List Bool) (T : Rw) : Prop where
  bel : Below w.heap.size w W
  len : F.length = n
  llen : L.length = n
  back : W.ownsRow w.heap.size 23 1 (.slice (some ⟨bk, 0, none⟩) n n) n (F.map Rw.val)
  out : W.ownsRow w.heap.size 4 1 (.slice (some ⟨ob, 0, none⟩) n n) n (L.map .bool)
  fam : Fam W w.heap.size (T :: F)
section
variable {w W W' : World} {n bk ob : Nat} {F : List Rw} {L : List Bool} {T : Rw}
theorem AlR.keep (h : AlR w W n bk ob F L T) (hb : Below W.heap.size W W') : AlR w W' n bk ob F L T :=
  ⟨bcall h.bel hb, h.len, h.llen, own_kept h.back hb, own_kept h.out hb, h.fam.below hb⟩
theorem own_blk {W : World} {b e s n g c : Nat} {xs : List Value} (h : W.ownsRow b e s (.slice (some ⟨g, 0, none⟩) n c) n xs) : b ≤ g ∧ g < W.heap.size ∧ ∃ cs, W.heap[g]? = some (.cells cs e (0, 0)) := by
  rcases h.2 with ⟨hv, _⟩ | ⟨g', cap, cur, hv, hb, hg, _⟩
  · cases hv
  · injection hv with hv _ _
    injection hv with hv
    injection hv with hv _ _
    subst hv
    exact ⟨hb, (Array.getElem?_eq_some_iff.1 hg).1, _, hg⟩
theorem own_cell {W : World} {b e n g c j : Nat} {u : Value} {xs : List Value} (h : W.ownsRow b e 1 (.slice (some ⟨g, 0, none⟩) n c) n xs) (hu : xs[j]? = some u) : W.cell? ⟨g, j, none⟩ = some u := by
  have := h.cells (g := g) rfl j u hu
  rwa [Addr.add_lit, Nat.zero_add] at this
theorem own_free {W : World} {b e s n g c : Nat} {xs : List Value} (h : W.ownsRow b e s (.slice (some ⟨g, 0, none⟩) n c) n xs) (j : Nat) : W.frozen? ⟨g, j, none⟩ = false := by
  obtain ⟨_, _, cs, hg⟩ := own_blk h
  exact free_at hg j
theorem AlR.backAt (h : AlR w W n bk ob F L T) {t : Nat} {f : Rw} (hf : F[t]? = some f) : W.cell? ⟨bk, t, none⟩ = some f.val := own_cell h.back (by rw [List.getElem?_map, hf]; rfl)
theorem AlR.outAt (h : AlR w W n bk ob F L T) {t : Nat} {b : Bool} (hf : L[t]? = some b) : W.cell? ⟨ob, t, none⟩ = some (.bool b) := own_cell h.out (by rw [List.getElem?_map, hf]; rfl)
theorem AlR.frow (h : AlR w W n bk ob F L T) {t : Nat} {f : Rw} (hf : F[t]? = some f) : f.own W w.heap.size := h.fam.own f (List.mem_cons_of_mem _ (List.mem_of_getElem? hf))
theorem AlR.todo (h : AlR w W n bk ob F L T) : T.own W w.heap.size := h.fam.own T (List.mem_cons_self ..)
/-- A number more behind a row of back. -/
theorem AlR.growB (h : AlR w W n bk ob F L T) {t : Nat} {f y : Rw} (hf : F[t]? = some f) (hg : W.grownBy W' f.val.ownBlock) (hy : y.own W' w.heap.size) (hm : y.val.ownBlock = f.val.ownBlock ∨ ∃ g, y.val.ownBlock = some g ∧ W.heap.size ≤ g) :
    AlR w (W'.setCell ⟨bk, t, none⟩ y.val) n bk ob (F.set t y) L T ∧ W'.cell? ⟨bk, t, none⟩ = some f.val ∧ W'.frozen? ⟨bk, t, none⟩ = false ∧ bk < W'.heap.size ∧
      ∀ (k : Nat) (cs : Array Value) (e : TypeId) (z : Nat × Nat), e ≠ 3 → e ≠ 23 → W.heap[k]? = some (.cells cs e z) → W'.heap[k]? = some (.cells cs e z) ∧ (W'.setCell ⟨bk, t, none⟩ y.val).heap[k]? = some (.cells cs e z) := by
  have hr := h.frow hf
  have hb' : W'.ownsRow w.heap.size 23 1 (.slice (some ⟨bk, 0, none⟩) n n) n (F.map Rw.val) := h.back.kept hg (own_types hr h.back (by decide))
  have ho' : W'.ownsRow w.heap.size 4 1 (.slice (some ⟨ob, 0, none⟩) n n) n (L.map .bool) := h.out.kept hg (own_types hr h.out (by decide))
  obtain ⟨q1, q2, cs, q3⟩ := own_blk hb'
  have hfam : Fam W' w.heap.size ((T :: F).set (t + 1) y) := h.fam.set (by simpa using hf) hg hy hm
  have hset : (F.set t y).map Rw.val = (F.map Rw.val).set t y.val := by rw [List.map_set]
  have hlt : ∀ q, f.val.ownBlock = some q → w.heap.size ≤ q := fun q hq => (hr.lt q hq).1
  refine ⟨⟨?_, by rw [List.length_set]; exact h.len, h.llen, ?_, own_other ho' q3 (by decide), hfam.other q3 (by decide)⟩, ?_, free_at q3 _, q2, fun k cs' e z he1 he2 hk => ?_⟩
  · exact below_set (h.bel.grown hg h.bel.size hlt) q1 (Nat.le_refl _)
  · rw [hset]; exact own_put hb'
  · exact own_cell hb' (by rw [List.getElem?_map, hf]; rfl)
  · have hk' := blk_kept hr hg hk he1
    refine ⟨hk', blk_other hk' fun e' => ?_⟩
    subst e'
    rw [q3] at hk'
    injection hk' with hk'
    injection hk' with _ hk' _
    exact he2 hk'.symm
/-- A number more to be gone on from. -/
theorem AlR.growT (h : AlR w W n bk ob F L T) {y : Rw} (hg : W.grownBy W' T.val.ownBlock) (hy : y.own W' w.heap.size) (hm : y.val.ownBlock = T.val.ownBlock ∨ ∃ g, y.val.ownBlock = some g ∧ W.heap.size ≤ g) :
    AlR w W' n bk ob F L y ∧ ∀ (k : Nat) (cs : Array Value) (e : TypeId) (z : Nat × Nat), e ≠ 3 → W.heap[k]? = some (.cells cs e z) → W'.heap[k]? = some (.cells cs e z) := by
  have hr := h.todo
  have hlt : ∀ q, T.val.ownBlock = some q → w.heap.size ≤ q := fun q hq => (hr.lt q hq).1
  exact ⟨⟨h.bel.grown hg h.bel.size hlt, h.len, h.llen, h.back.kept hg (own_types hr h.back (by decide)), h.out.kept hg (own_types hr h.out (by decide)), h.fam.set (t := 0) rfl hg hy hm⟩, fun k cs e z he hk => blk_kept hr hg hk he⟩
/-- One that is known to live. -/
theorem AlR.setO (h : AlR w W n bk ob F L T) {t : Nat} :
    AlR w (W.setCell ⟨ob, t, none⟩ (.bool true)) n bk ob F (L.set t true) T ∧ W.frozen? ⟨ob, t, none⟩ = false ∧ ob < W.heap.size ∧
      ∀ (k : Nat) (cs : Array Value) (e : TypeId) (z : Nat × Nat), e ≠ 4 → W.heap[k]? = some (.cells cs e z) → (W.setCell ⟨ob, t, none⟩ (.bool true)).heap[k]? = some (.cells cs e z) := by
  obtain ⟨q1, q2, cs, q3⟩ := own_blk h.out
  refine ⟨⟨below_set h.bel q1 (Nat.le_refl _), h.len, by rw [List.length_set]; exact h.llen, own_other h.back q3 (by decide), ?_, h.fam.other q3 (by decide)⟩, free_at q3 _, q2, fun k cs' e z he hk => blk_other hk fun e' => ?_⟩
  · rw [List.map_set]; exact own_put h.out
  · subst e'
    rw [q3] at hk
    injection hk with hk
    injection hk with _ hk _
    exact he hk.symm
/-- The last of those to be gone on from is taken. -/
theorem AlR.cutT (h : AlR w W n bk ob F L T) {A : Option Addr} {c : Nat} {l : List Int} {x : Int} (hT : T = ⟨A, c, l ++ [x]⟩) : AlR w W n bk ob F L ⟨A, c, l⟩ := by
  subst hT
  have hr := h.todo
  refine ⟨h.bel, h.len, h.llen, h.back, h.out, ⟨fun z hz => ?_, ?_⟩⟩
  · rcases List.mem_cons.1 hz with rfl | hz
    · have hr' : W.ownsRow w.heap.size 3 1 (.slice A (l ++ [x]).length c) (l ++ [x]).length ((l ++ [x]).map (.int .i64)) := hr
      have := own_cut (k := l.length) hr' (by simp) (fun e => by
        rcases hr'.2 with ⟨_, h0⟩ | ⟨g, _, _, hv, _⟩
        · simp at h0
        · injection hv with hv _ _
          rw [e] at hv
          cases hv)
      rw [Nat.mul_one, List.map_append, List.take_left' (by simp)] at this
      exact this
    · exact h.fam.own z (List.mem_cons_of_mem _ hz)
  · obtain ⟨h1, h2⟩ := List.pairwise_cons.1 h.fam.ap
    refine List.pairwise_cons.2 ⟨fun z hz => ?_, h2⟩
    have hv : (Rw.val ⟨A, c, l⟩).ownBlock = (Rw.val ⟨A, c, l ++ [x]⟩).ownBlock := by
      cases A <;> rfl
    have := h1 z hz
    unfold Ap at this ⊢
    rw [hv]
    exact this
end
/-- As the rows are made. -/
theorem AlR.start (w : World) (n : Nat) (hn : n ≤ 1000000) {W : World} (hW : W = ((w.alloc (.cells (madeCells #[.slice none 0 0] n) 23)).alloc (.cells #[] 3)).alloc (.cells (madeCells #[.bool false] n) 4)) :
    AlR w W n w.heap.size (w.heap.size + 1 + 1) (List.replicate n ⟨none, 0, []⟩) (List.replicate n false) ⟨some ⟨w.heap.size + 1, 0, none⟩, 0, []⟩ := by
  subst hW
  have b0 := bnew (brefl w) (.cells (madeCells #[.slice none 0 0] n) 23)
  have b1 := bnew b0 (.cells #[] 3)
  have b2 := bnew b1 (.cells (madeCells #[.bool false] n) 4)
  have o0 := own_made w (.slice none 0 0) n (by omega) 23 rfl (Nat.le_refl _)
  have o1 := own_kept (own_kept o0 (bnew (brefl _) (.cells #[] 3))) (bnew (brefl _) (.cells (madeCells #[.bool false] n) 4))
  refine ⟨b2, by simp, by simp, ?_, ?_, ⟨fun x hx => ?_, List.pairwise_cons.2 ⟨fun x hx => ?_, ?_⟩⟩⟩
  · have e : (List.replicate n (⟨none, 0, []⟩ : Rw)).map Rw.val = List.replicate n (.slice none 0 0) := by rw [List.map_replicate]; rfl
    rw [e]
    exact o1
  · rw [List.map_replicate]
    exact own_made _ (.bool false) n (by omega) 4 (by simp) b1.size
  · rcases List.mem_cons.1 hx with rfl | hx
    · have h2 : (w.alloc (.cells (madeCells #[.slice none 0 0] n) 23)).alloc (.cells #[] 3) |>.ownsRow w.heap.size 3 1 (.slice (some ⟨w.heap.size + 1, 0, none⟩) 0 0) 0 [] := own_lit _ 3 1 (by simp) b0.size
      exact own_kept h2 (bnew (brefl _) _)
    · rw [(List.mem_replicate.1 hx).2]
      exact ⟨rfl, .inl ⟨rfl, rfl⟩⟩
  · rw [(List.mem_replicate.1 hx).2]
    exact .inr (.inl rfl)
  · rw [List.pairwise_replicate]
    exact .inr (.inl rfl)
end Go.Proofs.YtclahhkcbkpofaaDoor
