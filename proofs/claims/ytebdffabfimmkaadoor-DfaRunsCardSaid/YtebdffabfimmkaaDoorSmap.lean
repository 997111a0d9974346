/- Maps from texts to numbers, in memory: which text stands where. (For seats that do not use fst's texts, which hold the same.) -/
import Derived.Test.YtebdffabfimmkaaDoorTab
import Derived.Maps.OwnSet
import Derived.Maps.OwnOps
import Derived.Maps.Ext
import Derived.StringKeys
namespace Go.Proofs.YtebdffabfimmkaaDoor
open Go.RowKit Go.Maps

/-- The first place of a text in a list. -/
def idx : List (List UInt8) → List UInt8 → Option Nat
  | [], _ => none
  | x :: r, s => if x = s then some 0 else (idx r s).map (· + 1)
theorem idx_snoc (ss : List (List UInt8)) (x s : List UInt8) : idx (ss ++ [x]) s = match idx ss s with
    | some i => some i
    | none => if x = s then some ss.length else none := by
  induction ss with
  | nil => simp [idx]
  | cons y r ih =>
    rw [List.cons_append, idx, idx, ih]
    by_cases h : y = s
    · simp [h]
    · simp only [h, if_false]
      cases idx r s with
      | some i => rfl
      | none =>
        by_cases h2 : x = s
        · simp [h2]
        · simp [h2]
theorem idx_lt {ss : List (List UInt8)} {s : List UInt8} {i : Nat} (h : idx ss s = some i) : i < ss.length ∧ ss[i]? = some s := by
  induction ss generalizing i with
  | nil => cases h
  | cons y r ih =>
    rw [idx] at h
    split at h
    · rename_i e
      injection h with h
      subst h
      simp [e]
    · obtain ⟨j, hj, rfl⟩ := Option.map_eq_some_iff.1 h
      have := ih hj
      simp only [List.length_cons, List.getElem?_cons_succ]
      exact ⟨by omega, this.2⟩
theorem idx_none {ss : List (List UInt8)} {s : List UInt8} (h : idx ss s = none) : s ∉ ss := by
  induction ss with
  | nil => simp
  | cons y r ih =>
    rw [idx] at h
    split at h
    · cases h
    · rename_i hne
      intro hm
      rcases List.mem_cons.1 hm with e | hm
      · exact hne e.symm
      · exact ih (by simpa using h) hm
theorem lawS : Keyed Tryd.prog 9 := string_keyed Tryd.underlying9
def intOfD {H : Type} : DataW H → Int
  | .lit (.int _ n) => n
  | _ => 0
def numD {H : Type} (N : DataW H) (s : List UInt8) : Int := intOfD (N.atKey (.string s) (.lit (.int .i64 0)))
theorem zeroI (w : World) : (zeroValue 3).run Tryd.prog w = .ok (.int .i64 0) w := by kernel_rfl
abbrev siMap {H : Type} (w : World) (b n : Nat) (N : DataW H) : Prop := w.ownsMap Tryd.prog 9 (plainElem Tryd.prog 3) b n N
set_option maxRecDepth 100000 in
theorem look_si {H : Type} {w : World} {b n : Nat} {N : DataW H} (h : siMap w b n N) (s : List UInt8) (hs : s.length ≤ maxLen) :
    (Instr.lookup 59 (.map (some b)) (.string ⟨s.toArray⟩) true).run Tryd.prog w = .ok (.tuple #[.int .i64 (numD N s), .bool (Maps.has N (.string s))]) w := by
  obtain ⟨S, hS⟩ : ∃ S : ByteArray, ⟨s.toArray⟩ = S := ⟨_, rfl⟩
  have hz : S.size ≤ maxLen := by rw [← hS, size_mk]; exact hs
  have hd : S.data.toList = s := by rw [← hS]
  rw [hS]
  obtain ⟨v, ps, hrun, hR⟩ := h.look_ok lawS Tryd.underlying59 (zeroI w) (plainElem_int Tryd.underlying3 (a := 0) (by decide)) (Go.WideMaps.keyOf_string_mk Tryd.underlying9 hz)
  obtain ⟨c, rfl, hc, hw⟩ := plainElem_int_inv Tryd.underlying3 hR
  injection hc with hc _
  rw [hd] at hrun hc
  have e : numD N s = c := by
    unfold numD
    rw [hc]
    rfl
  rw [e]
  exact hrun
set_option maxRecDepth 100000 in
theorem look_si1 {H : Type} {w : World} {b n : Nat} {N : DataW H} (h : siMap w b n N) (s : List UInt8) (hs : s.length ≤ maxLen) :
    (Instr.lookup 59 (.map (some b)) (.string ⟨s.toArray⟩) false).run Tryd.prog w = .ok (.int .i64 (numD N s)) w := by
  obtain ⟨S, hS⟩ : ∃ S : ByteArray, ⟨s.toArray⟩ = S := ⟨_, rfl⟩
  have hz : S.size ≤ maxLen := by rw [← hS, size_mk]; exact hs
  have hd : S.data.toList = s := by rw [← hS]
  rw [hS]
  obtain ⟨c, hrun, hc, _⟩ := h.lookup_int lawS Tryd.underlying59 Tryd.underlying3 (zeroI w) (Go.WideMaps.keyOf_string_mk Tryd.underlying9 hz)
  rw [hd] at hc
  have e : numD N s = c := by
    unfold numD
    rw [hc]
    rfl
  rw [e]
  exact hrun
theorem len_si {H : Type} {w : World} {b n : Nat} {N : DataW H} (h : siMap w b n N) : (Builtin.len_ #[59] 3 #[.map (some b)]).run Tryd.prog w = .ok (.int .i64 (Maps.size N)) w := h.len Tryd.underlying59 3
/-- The map tells where each text stands. -/
def Known (N : DataW Unit) (ss : List (List UInt8)) : Prop := IsMap N ∧ ∀ s, match idx ss s with
  | some i => Maps.has N (.string s) = true ∧ numD N s = i
  | none => Maps.has N (.string s) = false
theorem known_nil : Known (.map []) [] := ⟨⟨[], rfl⟩, fun _ => rfl⟩
theorem Known.snoc {N : DataW Unit} {ss : List (List UInt8)} (h : Known N ss) {x : List UInt8} (hx : idx ss x = none) : Known (N.put (.string x) (.lit (.int .i64 (ss.length : Nat)))) (ss ++ [x]) := by
  refine ⟨h.1.put _ _, fun s => ?_⟩
  have hs := h.2 s
  rw [idx_snoc]
  by_cases e : x = s
  · subst e
    rw [hx]
    simp only [if_true]
    refine ⟨has_put_same h.1 (by simp [Go.WideAt.IsKeyLit]) _, ?_⟩
    unfold numD
    rw [atKey_put_same h.1 (by simp [Go.WideAt.IsKeyLit])]
    rfl
  · have hne : (Lit.string s) ≠ Lit.string x := by simpa using fun h => e h.symm
    have hn : numD (N.put (.string x) (.lit (.int .i64 (ss.length : Nat)))) s = numD N s := by
      unfold numD
      rw [atKey_put_other hne]
    cases hi : idx ss s with
    | some i =>
      rw [hi] at hs
      exact ⟨(has_put_other hne _).trans hs.1, hn.trans hs.2⟩
    | none =>
      rw [hi] at hs
      simp only [e, if_false]
      exact (has_put_other hne _).trans hs

theorem row_not_map {H : Type} {W : World} {b e s n kb m : Nat} {x : Value} {xs : List Value} {N : DataW H} (h : W.ownsRow b e s x n xs) (hm : siMap W kb m N) : x.ownBlock = none ∨ x.ownBlock ≠ some kb := by
  rcases h.2 with ⟨rfl, _⟩ | ⟨g, cap, cur, rfl, _, hg, _⟩
  · exact .inl rfl
  · refine .inr fun e => ?_
    simp only [Value.ownBlock, Option.some.injEq] at e
    subst e
    obtain ⟨es, clock, hb, _⟩ := hm
    rw [hg] at hb
    cases hb
theorem row_not_cells {W : World} {b e s n k t : Nat} {x : Value} {xs : List Value} {cs : Array Value} {f : Nat × Nat} (h : W.ownsRow b e s x n xs) (hk : W.heap[k]? = some (.cells cs t f)) (he : t ≠ e) : x.ownBlock = none ∨ x.ownBlock ≠ some k := by
  rcases h.2 with ⟨rfl, _⟩ | ⟨g, cap, cur, rfl, _, hg, _⟩
  · exact .inl rfl
  · refine .inr fun e' => ?_
    simp only [Value.ownBlock, Option.some.injEq] at e'
    subst e'
    rw [hg] at hk
    injection hk with hk
    injection hk with _ hk _
    exact he hk.symm
theorem grown_below {W W' : World} (h : Below W.heap.size W W') : W.grownBy W' none := ⟨h.os, h.tape, h.output, h.size, fun k hk _ => h.block k hk⟩
theorem map_keep {w w' : World} {b n : Nat} {N : DataW Unit} (h : siMap w b n N) (hb : Below w.heap.size w w') : siMap w' b n N := h.kept (grown_below hb) (by simp)
/-- .. and it has as many entries as there are texts. -/
def KnownN (N : DataW Unit) (ss : List (List UInt8)) : Prop := Known N ss ∧ Maps.size N = ss.length
theorem knownN_nil : KnownN (.map []) [] := ⟨known_nil, rfl⟩
theorem KnownN.snoc {N : DataW Unit} {ss : List (List UInt8)} (h : KnownN N ss) (ht : Tidy N) {x : List UInt8} (hx : idx ss x = none) : KnownN (N.put (.string x) (.lit (.int .i64 (ss.length : Nat)))) (ss ++ [x]) := by
  refine ⟨h.1.snoc hx, ?_⟩
  have hh := h.1.2 x
  rw [hx] at hh
  rw [size_put ht, hh, if_neg (by simp), h.2, List.length_append, List.length_singleton]
end Go.Proofs.YtebdffabfimmkaaDoor
