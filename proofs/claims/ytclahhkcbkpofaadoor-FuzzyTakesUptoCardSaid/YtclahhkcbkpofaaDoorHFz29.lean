/- A word's states as they are made: what stores and calls of Lead do to them. -/
import Derived.Test.YtclahhkcbkpofaaDoorHFz22
import Derived.Test.YtclahhkcbkpofaaDoorHFz25
import Derived.Test.YtclahhkcbkpofaaDoorHFz28
namespace Go.Proofs.YtclahhkcbkpofaaDoor
open Go.RowKit
open Sp
set_option linter.unusedVariables false
theorem make_looseN (N : Nat) (hN : N ≤ 1000) (w : World) : (Instr.makeSlice 28 (.int .i64 (N : Int)) (.int .i64 (N : Int))).run Tryd.prog w = .ok (.slice (some ⟨w.heap.size, 0, none⟩) N N) (w.alloc (.cells (madeCells zeroL (N * 3)) 25)) := by
  obtain ⟨i, hi, hzz⟩ := Option.map_eq_some_iff.1 info_loose
  simp only [Prod.mk.injEq] at hzz
  obtain ⟨hz, hs, hb⟩ := hzz
  have hr := run_make (P := Tryd.prog) w 28 25 i _ Tryd.underlying28 hi hz .i64 .i64 (N : Int) (N : Int) (by omega) (Int.le_refl _) (by rw [hb]; omega) (by omega)
  rw [hs, Int.toNat_natCast] at hr
  exact hr
theorem loose_bare (w : World) (N : Nat) (hN : N ≤ 1000) : LoR w (w.alloc (.cells (madeCells zeroL (N * 3)) 25)) (.slice (some ⟨w.heap.size, 0, none⟩) N N) N (List.replicate N bareH) := by
  have ho := own_new w (madeCells zeroL (N * 3)) 25 3 N (size_madeCells _ _) (by unfold maxLen; omega) (nb := w.heap.size) rfl (base := w.heap.size) (Nat.le_refl _)
  rw [made_rep] at ho
  refine ⟨ho, fam_bare _ _ _ _ fun x hx => ?_, fam_bare _ _ _ _ fun x hx => ?_, bnew (brefl w) _⟩
  · obtain ⟨y, hy, rfl⟩ := List.mem_map.1 hx
    rw [List.eq_of_mem_replicate hy]; rfl
  · obtain ⟨y, hy, rfl⟩ := List.mem_map.1 hx
    rw [List.eq_of_mem_replicate hy]; rfl
theorem set_same {α : Type} {l : List α} {i : Nat} {y x : α} (hx : l[i]? = some x) (e : y = x) : l.set i y = l := by
  apply List.ext_getElem?
  intro j
  by_cases hj : i = j
  · subst hj
    rw [List.getElem?_set_self (List.getElem?_eq_some_iff.1 hx).1, hx, e]
  · rw [List.getElem?_set_ne hj]
/-- Whether a state is final. -/
theorem LoR.setfin {w W : World} {g n c i : Nat} {hs : List Lsh} {x : Lsh} {b : Bool} (h : LoR w W (.slice (some ⟨g, 0, none⟩) n c) n hs) (hx : hs[i]? = some x) :
    LoR w (W.setCell ⟨g, i * 3, none⟩ (.bool b)) (.slice (some ⟨g, 0, none⟩) n c) n (hs.set i ⟨⟨b, x.d.arcs, x.d.free⟩, x.A, x.c, x.F, x.e⟩) ∧ W.cell? ⟨g, i * 3, none⟩ = some (.bool x.d.fin) ∧ W.frozen? ⟨g, i * 3, none⟩ = false ∧ g < W.heap.size := by
  obtain ⟨q1, q2, cs, q3⟩ := own_blk h.out
  obtain ⟨k0, _, _⟩ := lo_cell h.out hx
  refine ⟨⟨?_, ?_, ?_, below_set h.bel q1 (Nat.le_refl _)⟩, k0, free_at q3 _, q2⟩
  · have h1 := own_put (j := i * 3) (u := .bool b) h.out
    have e : (hs.flatMap Lsh.hdr).set (i * 3) (.bool b) = (hs.set i ⟨⟨b, x.d.arcs, x.d.free⟩, x.A, x.c, x.F, x.e⟩).flatMap Lsh.hdr := by
      rw [set_split hx]
      conv => lhs; rw [split_at hx]
      have hl : ((hs.take i).flatMap Lsh.hdr).length = i * 3 := by rw [lhdr_len, List.length_take, Nat.min_eq_left (by have := (List.getElem?_eq_some_iff.1 hx).1; omega)]
      rw [List.flatMap_append, List.flatMap_append, List.flatMap_cons, List.flatMap_cons, List.set_append_right _ _ (by omega), hl, Nat.sub_self]
      unfold Lsh.hdr
      simp
    rw [e] at h1
    exact h1
  · rw [List.map_set, set_same (y := (⟨⟨b, x.d.arcs, x.d.free⟩, x.A, x.c, x.F, x.e⟩ : Lsh).arow) (x := x.arow) (by rw [List.getElem?_map, hx]; rfl) rfl]
    exact h.ar.kept (set_grown _ _ _) fun z hz => row_not_cells (h.ar.own z hz) q3 (by decide)
  · rw [List.map_set, set_same (y := (⟨⟨b, x.d.arcs, x.d.free⟩, x.A, x.c, x.F, x.e⟩ : Lsh).frow) (x := x.frow) (by rw [List.getElem?_map, hx]; rfl) rfl]
    exact h.fr.kept (set_grown _ _ _) fun z hz => row_not_cells (h.fr.own z hz) q3 (by decide)
/-- A new list of free ways put into a state's header. -/
theorem LoR.newfree {w W : World} {g n c i : Nat} {hs : List Lsh} {x : Lsh} {z : Int} (h : LoR w W (.slice (some ⟨g, 0, none⟩) n c) n hs) (hx : hs[i]? = some x) :
    LoR w ((W.setCell ⟨g, i * 3 + 2, none⟩ (.slice (some ⟨W.heap.size, 0, none⟩) 1 1)).alloc (.cells #[.int .i64 z] 3)) (.slice (some ⟨g, 0, none⟩) n c) n (hs.set i ⟨⟨x.d.fin, x.d.arcs, [z]⟩, x.A, x.c, some ⟨W.heap.size, 0, none⟩, 1⟩) ∧
    W.cell? ⟨g, i * 3 + 2, none⟩ = some (.slice x.F x.d.free.length x.e) ∧ W.frozen? ⟨g, i * 3 + 2, none⟩ = false ∧ g < W.heap.size := by
  obtain ⟨q1, q2, cs, q3⟩ := own_blk h.out
  obtain ⟨_, _, k2⟩ := lo_cell h.out hx
  obtain ⟨W1, hW1⟩ : ∃ W1, W.setCell ⟨g, i * 3 + 2, none⟩ (.slice (some ⟨W.heap.size, 0, none⟩) 1 1) = W1 := ⟨_, rfl⟩
  have hs1 : W1.heap.size = W.heap.size := by rw [← hW1]; simp [World.setCell]
  rw [hW1]
  have hb1 : Below w.heap.size w W1 := by rw [← hW1]; exact below_set h.bel q1 (Nat.le_refl _)
  have hxr : (hs.map Lsh.frow)[i]? = some x.frow := by rw [List.getElem?_map, hx]; rfl
  refine ⟨⟨?_, ?_, ?_, bnew hb1 _⟩, k2, free_at q3 _, q2⟩
  · have h1 := own_put (j := i * 3 + 2) (u := .slice (some ⟨W.heap.size, 0, none⟩) 1 1) h.out
    have e : (hs.flatMap Lsh.hdr).set (i * 3 + 2) (.slice (some ⟨W.heap.size, 0, none⟩) 1 1) = (hs.set i ⟨⟨x.d.fin, x.d.arcs, [z]⟩, x.A, x.c, some ⟨W.heap.size, 0, none⟩, 1⟩).flatMap Lsh.hdr := by
      rw [set_split hx]
      conv => lhs; rw [split_at hx]
      have hl : ((hs.take i).flatMap Lsh.hdr).length = i * 3 := by rw [lhdr_len, List.length_take, Nat.min_eq_left (by have := (List.getElem?_eq_some_iff.1 hx).1; omega)]
      rw [List.flatMap_append, List.flatMap_append, List.flatMap_cons, List.flatMap_cons, List.set_append_right _ _ (by omega), hl, Nat.add_sub_cancel_left]
      unfold Lsh.hdr
      simp
    rw [e, hW1] at h1
    exact own_kept h1 (bnew (brefl W1) _)
  · rw [List.map_set, set_same (y := (⟨⟨x.d.fin, x.d.arcs, [z]⟩, x.A, x.c, some ⟨W.heap.size, 0, none⟩, 1⟩ : Lsh).arow) (x := x.arow) (by rw [List.getElem?_map, hx]; rfl) rfl]
    have h2 : GFam W1 w.heap.size 63 3 (hs.map Lsh.arow) := by
      rw [← hW1]
      exact h.ar.kept (set_grown _ _ _) fun z hz => row_not_cells (h.ar.own z hz) q3 (by decide)
    exact h2.below (bnew (brefl W1) _)
  · rw [List.map_set]
    have h2 : GFam W1 w.heap.size 3 1 (hs.map Lsh.frow) := by
      rw [← hW1]
      exact h.fr.kept (set_grown _ _ _) fun z hz => row_not_cells (h.fr.own z hz) q3 (by decide)
    rw [split_at hxr] at h2
    have hb := bnew (brefl W1) (.cells #[.int .i64 z] 3)
    have h3 := h2.grow (W2 := W1.alloc (.cells #[.int .i64 z] 3)) (y := (⟨⟨x.d.fin, x.d.arcs, [z]⟩, x.A, x.c, some ⟨W.heap.size, 0, none⟩, 1⟩ : Lsh).frow) (World.grownBy_alloc _ _ _) (own_new W1 #[.int .i64 z] 3 1 1 rfl (by unfold maxLen; omega) (nb := W.heap.size) hs1.symm hb1.size) (.inr ⟨W.heap.size, rfl, by omega⟩)
    rw [← set_split hxr] at h3
    exact h3
/-! ### Calls of Lead, one behind another -/
/-- States with some ranges put in. -/
def FzS (wA W : World) (base : List Lst) (es : List Ld) (go m cp : Nat) : Prop := ∃ (w0 : World) (hs : List Lsh), LoR w0 W (.slice (some ⟨go, 0, none⟩) m cp) m hs ∧ hs.map (·.d) = leadsL base es ∧ Below wA.heap.size wA W
theorem FzS.drew {wA W : World} {base : List Lst} {es : List Ld} {go m cp : Nat} (h : FzS wA W base es go m cp) : FzS wA W.drew base es go m cp := by
  obtain ⟨w0, hs, h1, h2, h3⟩ := h
  exact ⟨w0, hs, ⟨h1.out, ⟨fun x hx => h1.ar.own x hx, h1.ar.ap⟩, ⟨fun x hx => h1.fr.own x hx, h1.fr.ap⟩, h1.bel.drew⟩, h2, h3.drew⟩
theorem FzS.keep {wA W W' : World} {base : List Lst} {es : List Ld} {go m cp : Nat} (h : FzS wA W base es go m cp) (hb : Below W.heap.size W W') : FzS wA W' base es go m cp := by
  obtain ⟨w0, hs, h1, h2, h3⟩ := h
  exact ⟨w0, hs, h1.keep hb, h2, bcall h3 hb⟩
theorem FzS.lo {wA W : World} {base : List Lst} {es : List Ld} {go m cp : Nat} (h : FzS wA W base es go m cp) (hf : FewT 0 1 base) (hb : base.length ≤ 100) (he : es.length ≤ 300) : ∃ hs, LoIn W W.heap.size (some ⟨go, 0, none⟩) m cp hs ∧ hs.map (·.d) = leadsL base es ∧ hs.length = m ∧ base.length ≤ m ∧ m ≤ 20000 ∧ ∀ x ∈ hs, x.d.arcs.length ≤ 1048576 ∧ x.d.free.length ≤ 1048576 := by
  obtain ⟨w0, hs, h1, h2, h3⟩ := h
  have hl := leads_len es base
  rw [← h2, List.length_map, h1.len] at hl
  have hw : ∀ x ∈ hs, x.d.arcs.length ≤ 1048576 ∧ x.d.free.length ≤ 1048576 := fun x hx => by
    have := (hf.leads es) x.d (by rw [← h2]; exact List.mem_map_of_mem hx)
    omega
  exact ⟨hs, h1.lo (by omega) (fun y hy => by have := (hw y hy).1; omega) (fun y hy => by have := (hw y hy).2; omega), h2, h1.len, hl.1, by omega, hw⟩
theorem FzS.bel {wA W : World} {base : List Lst} {es : List Ld} {go m cp : Nat} (h : FzS wA W base es go m cp) : Below wA.heap.size wA W := by
  obtain ⟨_, _, _, _, h3⟩ := h
  exact h3
theorem fz_lead {wA W : World} {base : List Lst} {es : List Ld} {go m cp : Nat} (h : FzS wA W base es go m cp) (hf : FewT 0 1 base) (hb : base.length ≤ 100) (he : es.length ≤ 300) (a b : Nat) (ha : a < base.length) (hb2 : b < base.length) (lo hi : Int) :
    Calls Tryd.prog 12 #[.slice (some ⟨go, 0, none⟩) m cp, .int .i64 (a : Int), .int .i64 (b : Int), .int .i64 lo, .int .i64 hi] W fun e W' => ∃ go' m' cp', e = .returned (.slice (some ⟨go', 0, none⟩) m' cp') ∧ FzS wA W' base (es ++ [(a, b, lo, hi)]) go' m' cp' := by
  have hbel := h.bel
  obtain ⟨hs, h1, h2, h3, h4, h5, h6⟩ := h.lo hf hb he
  refine (lead_any W W.heap.size (Nat.le_refl _) (some ⟨go, 0, none⟩) m cp hs h1 (by omega) h6 a b (by omega) (by omega) lo hi).mono ?_
  rintro e W' ⟨go', m', cp', hs', rfl, hlo, hle, _, _, _⟩
  refine ⟨go', m', cp', rfl, W, hs', hlo, ?_, bcall hbel hlo.bel⟩
  rw [hle, h2, leadsL_snoc]
/-! ### The closure -/
set_option maxHeartbeats 2000000 in
theorem at_any (w : World) (b : Nat) (a c E r : Int) (hb : w.cell? ⟨b, 0, none⟩ = some (.int .i64 E)) (hbw : b < w.heap.size) (h1 : IntKind.i64.wrap (a * E) = a * E) (h2 : IntKind.i64.wrap (a * E + c) = r) :
    Calls Tryd.prog 48 #[.int .i64 a, .int .i64 c, .pointer (some ⟨b, 0, none⟩)] w fun e w' => e = .returned (.int .i64 r) ∧ w' = w := by
  obtain ⟨p, hp⟩ : ∃ p, a * E = p := ⟨_, rfl⟩
  rw [hp] at h1 h2
  have h1' : IntKind.i64.wrap (a * E) = p := by rw [hp]; exact h1
  clear hp h1
  go_enter Tryd.func48, Tryd.ntmps48
  go_wp2_with fail
  go_ret
  exact ⟨rfl, rfl⟩
end Go.Proofs.YtclahhkcbkpofaaDoor
