/- make of rows of one cell. -/
import Derived.Test.YtebdffabfimmkaaDoorHDfaTakes10
import Derived.Test.YtebdffabfimmkaaDoorHDfaTakes4
import Derived.Deep.OwnRows
import Derived.Maps.OwnSet
import Derived.Maps.OwnOps
import Derived.Maps.Ext
import Derived.StringKeys
namespace Go.Proofs.YtebdffabfimmkaaDoor
open Go.RowKit

theorem made_list (z : Value) : ∀ n, (madeCells #[z] n).toList = List.replicate n z := by
  intro n
  apply List.ext_getElem?
  intro j
  by_cases hj : j < n
  · simp [madeCells, hj, Nat.mod_one]
  · simp [madeCells, hj]
theorem make_int (n : Nat) (hn : n ≤ 1099511627776) (w : World) : (Instr.makeSlice 54 (.int .i64 (n : Int)) (.int .i64 (n : Int))).run Tryd.prog w = .ok (.slice (some ⟨w.heap.size, 0, none⟩) n n) (w.alloc (.cells (madeCells #[.int .i64 0] n) 3)) :=
  run_make_row' 54 3 (.int .i64 0) 8 Tryd.underlying54 (by kernel_rfl) rfl .i64 .i64 n (by omega) (by omega) w
theorem make_bool (n : Nat) (hn : n ≤ 1099511627776) (w : World) : (Instr.makeSlice 68 (.int .i64 (n : Int)) (.int .i64 (n : Int))).run Tryd.prog w = .ok (.slice (some ⟨w.heap.size, 0, none⟩) n n) (w.alloc (.cells (madeCells #[.bool false] n) 4)) :=
  run_make_row' 68 4 (.bool false) 1 Tryd.underlying68 (by kernel_rfl) rfl .i64 .i64 n (by omega) (by omega) w
theorem make_ints (n : Nat) (hn : n ≤ 1099511627776) (w : World) : (Instr.makeSlice 60 (.int .i64 (n : Int)) (.int .i64 (n : Int))).run Tryd.prog w = .ok (.slice (some ⟨w.heap.size, 0, none⟩) n n) (w.alloc (.cells (madeCells #[.slice none 0 0] n) 54)) :=
  run_make_row' 60 54 (.slice none 0 0) 24 Tryd.underlying60 (by kernel_rfl) rfl .i64 .i64 n (by omega) (by omega) w
theorem own_made (w : World) (z : Value) (n : Nat) (hn : n ≤ 1099511627776) (e : TypeId) {nb : Nat} (h : nb = w.heap.size) {base : Nat} (hb : base ≤ w.heap.size) : (w.alloc (.cells (madeCells #[z] n) e)).ownsRow base e 1 (.slice (some ⟨nb, 0, none⟩) n n) n (List.replicate n z) := by
  have hl := made_list z n
  have h1 := own_new w (madeCells #[z] n) e 1 n (by rw [← Array.length_toList, hl, List.length_replicate, Nat.mul_one]) (by unfold maxLen; omega) h hb
  rw [hl] at h1
  exact h1
end Go.Proofs.YtebdffabfimmkaaDoor
/- Rows of numbers of the call's own, no two in one block. -/
namespace Go.Proofs.YtebdffabfimmkaaDoor
open Go.RowKit

structure Rw where
  A : Option Addr
  c : Nat
  l : List Int
def Rw.val (x : Rw) : Value := .slice x.A x.l.length x.c
def Rw.own (W : World) (base : Nat) (x : Rw) : Prop := W.ownsRow base 3 1 x.val x.l.length (x.l.map (.int .i64))
/-- Two rows lie apart. -/
def Ap (x y : Rw) : Prop := x.val.ownBlock = none ∨ y.val.ownBlock = none ∨ x.val.ownBlock ≠ y.val.ownBlock
theorem Ap.symm {x y : Rw} (h : Ap x y) : Ap y x := by
  rcases h with h | h | h
  · exact .inr (.inl h)
  · exact .inl h
  · exact .inr (.inr fun e => h e.symm)
structure Fam (W : World) (base : Nat) (F : List Rw) : Prop where
  own : ∀ x ∈ F, x.own W base
  ap : F.Pairwise Ap
theorem Fam.below {W W' : World} {base : Nat} {F : List Rw} (h : Fam W base F) (hb : Below W.heap.size W W') : Fam W' base F := ⟨fun x hx => own_kept (h.own x hx) hb, h.ap⟩
theorem Ap.kept {x z : Rw} (h : Ap z x) : z.val.ownBlock = none ∨ z.val.ownBlock ≠ x.val.ownBlock := by
  rcases h with h | h | h
  · exact .inl h
  · cases hz : z.val.ownBlock with
    | none => exact .inl rfl
    | some g => exact .inr (by rw [h]; simp)
  · exact .inr h
theorem Fam.grow {W W2 : World} {base : Nat} {a b : List Rw} {x y : Rw} (h : Fam W base (a ++ x :: b)) (hg : W.grownBy W2 x.val.ownBlock) (hy : y.own W2 base) (hm : y.val.ownBlock = x.val.ownBlock ∨ ∃ g, y.val.ownBlock = some g ∧ W.heap.size ≤ g) : Fam W2 base (a ++ y :: b) := by
  obtain ⟨p1, p2, p3⟩ := List.pairwise_append.1 h.ap
  obtain ⟨p4, p5⟩ := List.pairwise_cons.1 p2
  have hzx : ∀ z, z ∈ a ∨ z ∈ b → Ap z x := fun z hz => by
    rcases hz with hz | hz
    · exact p3 z hz x (List.mem_cons_self ..)
    · exact (p4 z hz).symm
  have hzy : ∀ z, z ∈ a ∨ z ∈ b → Ap z y := fun z hz => by
    have hown : z.own W base := h.own z (by
      rcases hz with hz | hz
      · exact List.mem_append_left _ hz
      · exact List.mem_append_right _ (List.mem_cons_of_mem _ hz))
    rcases hm with hm | ⟨g, hm, hgs⟩
    · have := hzx z hz
      unfold Ap at this ⊢
      rw [hm]
      exact this
    · cases hzb : z.val.ownBlock with
      | none => exact .inl hzb
      | some k =>
        refine .inr (.inr ?_)
        rw [hzb, hm]
        intro e
        injection e with e
        have := (World.ownsRow.lt hown k hzb).2
        omega
  refine ⟨fun z hz => ?_, List.pairwise_append.2 ⟨p1, List.pairwise_cons.2 ⟨fun z hz => (hzy z (.inr hz)).symm, p5⟩, fun z hz u hu => ?_⟩⟩
  · have keep : ∀ z, z ∈ a ∨ z ∈ b → z.own W2 base := fun z hz => by
      have hown : z.own W base := h.own z (by
        rcases hz with hz | hz
        · exact List.mem_append_left _ hz
        · exact List.mem_append_right _ (List.mem_cons_of_mem _ hz))
      exact World.ownsRow.kept hown hg (hzx z hz).kept
    rcases List.mem_append.1 hz with hz | hz
    · exact keep z (.inl hz)
    · rcases List.mem_cons.1 hz with rfl | hz
      · exact hy
      · exact keep z (.inr hz)
  · rcases List.mem_cons.1 hu with rfl | hu
    · exact hzy z (.inl hz)
    · exact p3 z hz u (List.mem_cons_of_mem _ hu)
theorem split_at {α : Type} {F : List α} {t : Nat} {x : α} (h : F[t]? = some x) : F = F.take t ++ x :: F.drop (t + 1) := by
  obtain ⟨h1, h2⟩ := List.getElem?_eq_some_iff.1 h
  rw [← h2, ← List.drop_eq_getElem_cons h1, List.take_append_drop]
theorem set_split {α : Type} {F : List α} {t : Nat} {x y : α} (h : F[t]? = some x) : F.set t y = F.take t ++ y :: F.drop (t + 1) := by
  obtain ⟨h1, _⟩ := List.getElem?_eq_some_iff.1 h
  exact List.set_eq_take_append_cons_drop.trans (if_pos h1)
theorem Fam.set {W W2 : World} {base : Nat} {F : List Rw} {t : Nat} {x y : Rw} (h : Fam W base F) (ht : F[t]? = some x) (hg : W.grownBy W2 x.val.ownBlock) (hy : y.own W2 base) (hm : y.val.ownBlock = x.val.ownBlock ∨ ∃ g, y.val.ownBlock = some g ∧ W.heap.size ≤ g) : Fam W2 base (F.set t y) := by
  rw [set_split ht]
  rw [split_at ht] at h
  exact h.grow hg hy hm
/-- A store into a block that holds no numbers. -/
theorem Fam.other {W : World} {base g j : Nat} {F : List Rw} {u : Value} {cs : Array Value} {t : TypeId} {f : Nat × Nat} (h : Fam W base F) (hb : W.heap[g]? = some (.cells cs t f)) (ht : t ≠ 3) : Fam (W.setCell ⟨g, j, none⟩ u) base F := by
  refine ⟨fun x hx => World.ownsRow.kept (h.own x hx) (set_grown _ _ _) ?_, h.ap⟩
  rcases (h.own x hx).2 with ⟨hv, _⟩ | ⟨k, cap, cur, hv, _, hg, _⟩
  · rw [hv]; exact .inl rfl
  · rw [hv]
    refine .inr fun e => ?_
    simp only [Value.ownBlock, Option.some.injEq] at e
    subst e
    rw [hg] at hb
    injection hb with hb
    injection hb with _ hb _
    exact ht hb.symm
/-- A row that is cut short. -/
theorem own_cut {W : World} {base e s n k c : Nat} {A : Option Addr} {xs : List Value} (h : W.ownsRow base e s (.slice A n c) n xs) (hk : k ≤ n) (hn : A ≠ none) : W.ownsRow base e s (.slice A k c) k (xs.take (k * s)) := by
  refine ⟨by rw [List.length_take, h.1, Nat.min_eq_left (Nat.mul_le_mul_right _ hk)], ?_⟩
  rcases h.2 with ⟨hv, _⟩ | ⟨g, cap, cur, hv, hb, hg, h1, h2, h3, h4⟩
  · injection hv with hv _ _
    exact absurd hv hn
  · injection hv with hv1 _ hv3
    subst hv1 hv3
    refine .inr ⟨g, c, cur, rfl, hb, hg, Nat.le_trans hk h1, h2, h3, ?_⟩
    rw [← h4, List.take_take, Nat.min_eq_left (Nat.mul_le_mul_right _ hk)]
end Go.Proofs.YtebdffabfimmkaaDoor
/- Maps from texts to numbers, in memory: which text stands where. (For seats that do not use fst's texts, which hold the same.) -/
namespace Go.Proofs.YtebdffabfimmkaaDoor
open Go.RowKit Go.Maps

/-- The first place of a text in a list. -/
def idx : List (List UInt8) → List UInt8 → Option Nat
  | [], _ => none
  | x :: r, s => if x = s then some 0 else (idx r s).map (· + 1)
theorem idx_snoc (ss : List (List UInt8)) (x s : List UInt8) : idx (ss ++ [x]) s = match idx ss s with
    | some i => some i
    | none => if x = s then some ss.length else none := by
  induction ss with
  | nil => simp [idx]
  | cons y r ih =>
    rw [List.cons_append, idx, idx, ih]
    by_cases h : y = s
    · simp [h]
    · simp only [h, if_false]
      cases idx r s with
      | some i => rfl
      | none =>
        by_cases h2 : x = s
        · simp [h2]
        · simp [h2]
theorem idx_lt {ss : List (List UInt8)} {s : List UInt8} {i : Nat} (h : idx ss s = some i) : i < ss.length ∧ ss[i]? = some s := by
  induction ss generalizing i with
  | nil => cases h
  | cons y r ih =>
    rw [idx] at h
    split at h
    · rename_i e
      injection h with h
      subst h
      simp [e]
    · obtain ⟨j, hj, rfl⟩ := Option.map_eq_some_iff.1 h
      have := ih hj
      simp only [List.length_cons, List.getElem?_cons_succ]
      exact ⟨by omega, this.2⟩
theorem idx_none {ss : List (List UInt8)} {s : List UInt8} (h : idx ss s = none) : s ∉ ss := by
  induction ss with
  | nil => simp
  | cons y r ih =>
    rw [idx] at h
    split at h
    · cases h
    · rename_i hne
      intro hm
      rcases List.mem_cons.1 hm with e | hm
      · exact hne e.symm
      · exact ih (by simpa using h) hm
theorem lawS : Keyed Tryd.prog 9 := string_keyed Tryd.underlying9
def intOfD {H : Type} : DataW H → Int
  | .lit (.int _ n) => n
  | _ => 0
def numD {H : Type} (N : DataW H) (s : List UInt8) : Int := intOfD (N.atKey (.string s) (.lit (.int .i64 0)))
theorem zeroI (w : World) : (zeroValue 3).run Tryd.prog w = .ok (.int .i64 0) w := by kernel_rfl
abbrev siMap {H : Type} (w : World) (b n : Nat) (N : DataW H) : Prop := w.ownsMap Tryd.prog 9 (plainElem Tryd.prog 3) b n N
set_option maxRecDepth 100000 in
theorem look_si {H : Type} {w : World} {b n : Nat} {N : DataW H} (h : siMap w b n N) (s : List UInt8) (hs : s.length ≤ maxLen) :
    (Instr.lookup 59 (.map (some b)) (.string ⟨s.toArray⟩) true).run Tryd.prog w = .ok (.tuple #[.int .i64 (numD N s), .bool (Maps.has N (.string s))]) w := by
  obtain ⟨S, hS⟩ : ∃ S : ByteArray, ⟨s.toArray⟩ = S := ⟨_, rfl⟩
  have hz : S.size ≤ maxLen := by rw [← hS, size_mk]; exact hs
  have hd : S.data.toList = s := by rw [← hS]
  rw [hS]
  obtain ⟨v, ps, hrun, hR⟩ := h.look_ok lawS Tryd.underlying59 (zeroI w) (plainElem_int Tryd.underlying3 (a := 0) (by decide)) (Go.WideMaps.keyOf_string_mk Tryd.underlying9 hz)
  obtain ⟨c, rfl, hc, hw⟩ := plainElem_int_inv Tryd.underlying3 hR
  injection hc with hc _
  rw [hd] at hrun hc
  have e : numD N s = c := by
    unfold numD
    rw [hc]
    rfl
  rw [e]
  exact hrun
set_option maxRecDepth 100000 in
theorem look_si1 {H : Type} {w : World} {b n : Nat} {N : DataW H} (h : siMap w b n N) (s : List UInt8) (hs : s.length ≤ maxLen) :
    (Instr.lookup 59 (.map (some b)) (.string ⟨s.toArray⟩) false).run Tryd.prog w = .ok (.int .i64 (numD N s)) w := by
  obtain ⟨S, hS⟩ : ∃ S : ByteArray, ⟨s.toArray⟩ = S := ⟨_, rfl⟩
  have hz : S.size ≤ maxLen := by rw [← hS, size_mk]; exact hs
  have hd : S.data.toList = s := by rw [← hS]
  rw [hS]
  obtain ⟨c, hrun, hc, _⟩ := h.lookup_int lawS Tryd.underlying59 Tryd.underlying3 (zeroI w) (Go.WideMaps.keyOf_string_mk Tryd.underlying9 hz)
  rw [hd] at hc
  have e : numD N s = c := by
    unfold numD
    rw [hc]
    rfl
  rw [e]
  exact hrun
theorem len_si {H : Type} {w : World} {b n : Nat} {N : DataW H} (h : siMap w b n N) : (Builtin.len_ #[59] 3 #[.map (some b)]).run Tryd.prog w = .ok (.int .i64 (Maps.size N)) w := h.len Tryd.underlying59 3
/-- The map tells where each text stands. -/
def Known (N : DataW Unit) (ss : List (List UInt8)) : Prop := IsMap N ∧ ∀ s, match idx ss s with
  | some i => Maps.has N (.string s) = true ∧ numD N s = i
  | none => Maps.has N (.string s) = false
theorem known_nil : Known (.map []) [] := ⟨⟨[], rfl⟩, fun _ => rfl⟩
theorem Known.snoc {N : DataW Unit} {ss : List (List UInt8)} (h : Known N ss) {x : List UInt8} (hx : idx ss x = none) : Known (N.put (.string x) (.lit (.int .i64 (ss.length : Nat)))) (ss ++ [x]) := by
  refine ⟨h.1.put _ _, fun s => ?_⟩
  have hs := h.2 s
  rw [idx_snoc]
  by_cases e : x = s
  · subst e
    rw [hx]
    simp only [if_true]
    refine ⟨has_put_same h.1 (by simp [Go.WideAt.IsKeyLit]) _, ?_⟩
    unfold numD
    rw [atKey_put_same h.1 (by simp [Go.WideAt.IsKeyLit])]
    rfl
  · have hne : (Lit.string s) ≠ Lit.string x := by simpa using fun h => e h.symm
    have hn : numD (N.put (.string x) (.lit (.int .i64 (ss.length : Nat)))) s = numD N s := by
      unfold numD
      rw [atKey_put_other hne]
    cases hi : idx ss s with
    | some i =>
      rw [hi] at hs
      exact ⟨(has_put_other hne _).trans hs.1, hn.trans hs.2⟩
    | none =>
      rw [hi] at hs
      simp only [e, if_false]
      exact (has_put_other hne _).trans hs

theorem row_not_map {H : Type} {W : World} {b e s n kb m : Nat} {x : Value} {xs : List Value} {N : DataW H} (h : W.ownsRow b e s x n xs) (hm : siMap W kb m N) : x.ownBlock = none ∨ x.ownBlock ≠ some kb := by
  rcases h.2 with ⟨rfl, _⟩ | ⟨g, cap, cur, rfl, _, hg, _⟩
  · exact .inl rfl
  · refine .inr fun e => ?_
    simp only [Value.ownBlock, Option.some.injEq] at e
    subst e
    obtain ⟨es, clock, hb, _⟩ := hm
    rw [hg] at hb
    cases hb
theorem row_not_cells {W : World} {b e s n k t : Nat} {x : Value} {xs : List Value} {cs : Array Value} {f : Nat × Nat} (h : W.ownsRow b e s x n xs) (hk : W.heap[k]? = some (.cells cs t f)) (he : t ≠ e) : x.ownBlock = none ∨ x.ownBlock ≠ some k := by
  rcases h.2 with ⟨rfl, _⟩ | ⟨g, cap, cur, rfl, _, hg, _⟩
  · exact .inl rfl
  · refine .inr fun e' => ?_
    simp only [Value.ownBlock, Option.some.injEq] at e'
    subst e'
    rw [hg] at hk
    injection hk with hk
    injection hk with _ hk _
    exact he hk.symm
theorem grown_below {W W' : World} (h : Below W.heap.size W W') : W.grownBy W' none := ⟨h.os, h.tape, h.output, h.size, fun k hk _ => h.block k hk⟩
theorem map_keep {w w' : World} {b n : Nat} {N : DataW Unit} (h : siMap w b n N) (hb : Below w.heap.size w w') : siMap w' b n N := h.kept (grown_below hb) (by simp)
/-- .. and it has as many entries as there are texts. -/
def KnownN (N : DataW Unit) (ss : List (List UInt8)) : Prop := Known N ss ∧ Maps.size N = ss.length
theorem knownN_nil : KnownN (.map []) [] := ⟨known_nil, rfl⟩
theorem KnownN.snoc {N : DataW Unit} {ss : List (List UInt8)} (h : KnownN N ss) (ht : Tidy N) {x : List UInt8} (hx : idx ss x = none) : KnownN (N.put (.string x) (.lit (.int .i64 (ss.length : Nat)))) (ss ++ [x]) := by
  refine ⟨h.1.snoc hx, ?_⟩
  have hh := h.1.2 x
  rw [hx] at hh
  rw [size_put ht, hh, if_neg (by simp), h.2, List.length_append, List.length_singleton]
end Go.Proofs.YtebdffabfimmkaaDoor
