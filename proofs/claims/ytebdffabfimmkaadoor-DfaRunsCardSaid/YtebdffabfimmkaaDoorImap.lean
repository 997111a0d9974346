/- Maps from numbers to numbers, in memory. -/
import Derived.Test.YtebdffabfimmkaaDoorSmap
import Derived.WalkArith
namespace Go.Proofs.YtebdffabfimmkaaDoor
open Go.RowKit Go.Maps

theorem lawI : Keyed Tryd.prog 3 := int_keyed Tryd.underlying3
abbrev iiMap {H : Type} (w : World) (b n : Nat) (N : DataW H) : Prop := w.ownsMap Tryd.prog 3 (plainElem Tryd.prog 3) b n N
/-- What the map has at a number; 0 if there is nothing. -/
def numI {H : Type} (N : DataW H) (k : Int) : Int := intOfD (N.atKey (.int .i64 k) (.lit (.int .i64 0)))
def hasI {H : Type} (N : DataW H) (k : Int) : Bool := Maps.has N (.int .i64 k)

set_option maxRecDepth 100000 in
theorem look_ii {H : Type} {w : World} {b n : Nat} {N : DataW H} (h : iiMap w b n N) (k : Int) (h0 : -9223372036854775808 ≤ k) (h1 : k ≤ 9223372036854775807) :
    (Instr.lookup 103 (.map (some b)) (.int .i64 k) true).run Tryd.prog w = .ok (.tuple #[.int .i64 (numI N k), .bool (hasI N k)]) w := by
  obtain ⟨v, ps, hrun, hR⟩ := h.look_ok lawI Tryd.underlying103 (zeroI w) (plainElem_int Tryd.underlying3 (a := 0) (by decide)) (keyOf_int_mk Tryd.underlying3 (WalkArith.wf_i64 ⟨h0, h1⟩))
  obtain ⟨c, rfl, hc, hw⟩ := plainElem_int_inv Tryd.underlying3 hR
  injection hc with hc _
  have e : numI N k = c := by
    unfold numI
    rw [hc]
    rfl
  rw [e]
  exact hrun
set_option maxRecDepth 100000 in
theorem look_ii1 {H : Type} {w : World} {b n : Nat} {N : DataW H} (h : iiMap w b n N) (k : Int) (h0 : -9223372036854775808 ≤ k) (h1 : k ≤ 9223372036854775807) :
    (Instr.lookup 103 (.map (some b)) (.int .i64 k) false).run Tryd.prog w = .ok (.int .i64 (numI N k)) w := by
  obtain ⟨c, hrun, hc, _⟩ := h.lookup_int lawI Tryd.underlying103 Tryd.underlying3 (zeroI w) (keyOf_int_mk Tryd.underlying3 (WalkArith.wf_i64 ⟨h0, h1⟩))
  have e : numI N k = c := by
    unfold numI
    rw [hc]
    rfl
  rw [e]
  exact hrun
theorem numI_put {N : DataW Unit} (h : IsMap N) (k z j : Int) : numI (N.put (.int .i64 k) (.lit (.int .i64 z))) j = if j = k then z else numI N j := by
  unfold numI
  by_cases e : j = k
  · rw [if_pos e, e, atKey_put_same h (by simp [Go.WideAt.IsKeyLit])]
    rfl
  · rw [if_neg e, atKey_put_other (by simpa using e)]
theorem hasI_put {N : DataW Unit} (h : IsMap N) (k z j : Int) : hasI (N.put (.int .i64 k) (.lit (.int .i64 z))) j = (decide (j = k) || hasI N j) := by
  unfold hasI
  by_cases e : j = k
  · rw [e, has_put_same h (by simp [Go.WideAt.IsKeyLit])]
    simp
  · rw [has_put_other (by simpa using e)]
    simp [e]
theorem row_not_mapI {H : Type} {W : World} {b e s n kb m : Nat} {x : Value} {xs : List Value} {N : DataW H} (h : W.ownsRow b e s x n xs) (hm : iiMap W kb m N) : x.ownBlock = none ∨ x.ownBlock ≠ some kb := by
  rcases h.2 with ⟨rfl, _⟩ | ⟨g, cap, cur, rfl, _, hg, _⟩
  · exact .inl rfl
  · refine .inr fun e => ?_
    simp only [Value.ownBlock, Option.some.injEq] at e
    subst e
    obtain ⟨es, clock, hb, _⟩ := hm
    rw [hg] at hb
    cases hb
theorem mapI_keep {w w' : World} {b n : Nat} {N : DataW Unit} (h : iiMap w b n N) (hb : Below w.heap.size w w') : iiMap w' b n N := h.kept (grown_below hb) (by simp)
end Go.Proofs.YtebdffabfimmkaaDoor
