/- Maps from texts to numbers, in memory: which text stands where. (For seats that do not use fst's texts, which hold the same.) -/
import Derived.Test.YtclahhkcbkpofaaDoorHFz6
import Derived.Maps.OwnSet
import Derived.Maps.OwnOps
import Derived.Maps.Ext
import Derived.StringKeys
import Derived.Test.YtclahhkcbkpofaaDoorHFz13
import Derived.Test.YtclahhkcbkpofaaDoorHFz14
import Derived.Test.YtclahhkcbkpofaaDoorHFz10
namespace Go.Proofs.YtclahhkcbkpofaaDoor
open Go.RowKit Go.Maps
/-- The first place of a text in a list. -/
def idx : List (List UInt8) → List UInt8 → Option Nat
  | [], _ => none
  | x :: r, s => if x = s then some 0 else (idx r s).map (· + 1)
theorem idx_snoc (ss : List (List UInt8)) (x s : List UInt8) : idx (ss ++ [x]) s = match idx ss s with
    | some i => some i
    | none => if x = s then some ss.length else none := by
  induction ss with
  | nil => simp [idx]
  | cons y r ih =>
    rw [List.cons_append, idx, idx, ih]
    by_cases h : y = s
    · simp [h]
    · simp only [h, if_false]
      cases idx r s with
      | some i => rfl
      | none =>
        by_cases h2 : x = s
        · simp [h2]
        · simp [h2]
theorem idx_lt {ss : List (List UInt8)} {s : List UInt8} {i : Nat} (h : idx ss s = some i) : i < ss.length ∧ ss[i]? = some s := by
  induction ss generalizing i with
  | nil => cases h
  | cons y r ih =>
    rw [idx] at h
    split at h
    · rename_i e
      injection h with h
      subst h
      simp [e]
    · obtain ⟨j, hj, rfl⟩ := Option.map_eq_some_iff.1 h
      have := ih hj
      simp only [List.length_cons, List.getElem?_cons_succ]
      exact ⟨by omega, this.2⟩
theorem idx_none {ss : List (List UInt8)} {s : List UInt8} (h : idx ss s = none) : s ∉ ss := by
  induction ss with
  | nil => simp
  | cons y r ih =>
    rw [idx] at h
    split at h
    · cases h
    · rename_i hne
      intro hm
      rcases List.mem_cons.1 hm with e | hm
      · exact hne e.symm
      · exact ih (by simpa using h) hm
theorem lawS : Keyed Tryd.prog 9 := string_keyed Tryd.underlying9
def intOfD {H : Type} : DataW H → Int
  | .lit (.int _ n) => n
  | _ => 0
def numD {H : Type} (N : DataW H) (s : List UInt8) : Int := intOfD (N.atKey (.string s) (.lit (.int .i64 0)))
theorem zeroI (w : World) : (zeroValue 3).run Tryd.prog w = .ok (.int .i64 0) w := by kernel_rfl
abbrev siMap {H : Type} (w : World) (b n : Nat) (N : DataW H) : Prop := w.ownsMap Tryd.prog 9 (plainElem Tryd.prog 3) b n N
set_option maxRecDepth 100000 in
theorem look_si {H : Type} {w : World} {b n : Nat} {N : DataW H} (h : siMap w b n N) (s : List UInt8) (hs : s.length ≤ maxLen) :
    (Instr.lookup 69 (.map (some b)) (.string ⟨s.toArray⟩) true).run Tryd.prog w = .ok (.tuple #[.int .i64 (numD N s), .bool (Maps.has N (.string s))]) w := by
  obtain ⟨S, hS⟩ : ∃ S : ByteArray, ⟨s.toArray⟩ = S := ⟨_, rfl⟩
  have hz : S.size ≤ maxLen := by rw [← hS, size_mk]; exact hs
  have hd : S.data.toList = s := by rw [← hS]
  rw [hS]
  obtain ⟨v, ps, hrun, hR⟩ := h.look_ok lawS Tryd.underlying69 (zeroI w) (plainElem_int Tryd.underlying3 (a := 0) (by decide)) (Go.WideMaps.keyOf_string_mk Tryd.underlying9 hz)
  obtain ⟨c, rfl, hc, hw⟩ := plainElem_int_inv Tryd.underlying3 hR
  injection hc with hc _
  rw [hd] at hrun hc
  have e : numD N s = c := by
    unfold numD
    rw [hc]
    rfl
  rw [e]
  exact hrun
set_option maxRecDepth 100000 in
theorem look_si1 {H : Type} {w : World} {b n : Nat} {N : DataW H} (h : siMap w b n N) (s : List UInt8) (hs : s.length ≤ maxLen) :
    (Instr.lookup 69 (.map (some b)) (.string ⟨s.toArray⟩) false).run Tryd.prog w = .ok (.int .i64 (numD N s)) w := by
  obtain ⟨S, hS⟩ : ∃ S : ByteArray, ⟨s.toArray⟩ = S := ⟨_, rfl⟩
  have hz : S.size ≤ maxLen := by rw [← hS, size_mk]; exact hs
  have hd : S.data.toList = s := by rw [← hS]
  rw [hS]
  obtain ⟨c, hrun, hc, _⟩ := h.lookup_int lawS Tryd.underlying69 Tryd.underlying3 (zeroI w) (Go.WideMaps.keyOf_string_mk Tryd.underlying9 hz)
  rw [hd] at hc
  have e : numD N s = c := by
    unfold numD
    rw [hc]
    rfl
  rw [e]
  exact hrun
theorem len_si {H : Type} {w : World} {b n : Nat} {N : DataW H} (h : siMap w b n N) : (Builtin.len_ #[69] 3 #[.map (some b)]).run Tryd.prog w = .ok (.int .i64 (Maps.size N)) w := h.len Tryd.underlying69 3
/-- The map tells where each text stands. -/
def Known (N : DataW Unit) (ss : List (List UInt8)) : Prop := IsMap N ∧ ∀ s, match idx ss s with
  | some i => Maps.has N (.string s) = true ∧ numD N s = i
  | none => Maps.has N (.string s) = false
theorem known_nil : Known (.map []) [] := ⟨⟨[], rfl⟩, fun _ => rfl⟩
theorem Known.snoc {N : DataW Unit} {ss : List (List UInt8)} (h : Known N ss) {x : List UInt8} (hx : idx ss x = none) : Known (N.put (.string x) (.lit (.int .i64 (ss.length : Nat)))) (ss ++ [x]) := by
  refine ⟨h.1.put _ _, fun s => ?_⟩
  have hs := h.2 s
  rw [idx_snoc]
  by_cases e : x = s
  · subst e
    rw [hx]
    simp only [if_true]
    refine ⟨has_put_same h.1 (by simp [Go.WideAt.IsKeyLit]) _, ?_⟩
    unfold numD
    rw [atKey_put_same h.1 (by simp [Go.WideAt.IsKeyLit])]
    rfl
  · have hne : (Lit.string s) ≠ Lit.string x := by simpa using fun h => e h.symm
    have hn : numD (N.put (.string x) (.lit (.int .i64 (ss.length : Nat)))) s = numD N s := by
      unfold numD
      rw [atKey_put_other hne]
    cases hi : idx ss s with
    | some i =>
      rw [hi] at hs
      exact ⟨(has_put_other hne _).trans hs.1, hn.trans hs.2⟩
    | none =>
      rw [hi] at hs
      simp only [e, if_false]
      exact (has_put_other hne _).trans hs

theorem row_not_map {H : Type} {W : World} {b e s n kb m : Nat} {x : Value} {xs : List Value} {N : DataW H} (h : W.ownsRow b e s x n xs) (hm : siMap W kb m N) : x.ownBlock = none ∨ x.ownBlock ≠ some kb := by
  rcases h.2 with ⟨rfl, _⟩ | ⟨g, cap, cur, rfl, _, hg, _⟩
  · exact .inl rfl
  · refine .inr fun e => ?_
    simp only [Value.ownBlock, Option.some.injEq] at e
    subst e
    obtain ⟨es, clock, hb, _⟩ := hm
    rw [hg] at hb
    cases hb
theorem row_not_cells {W : World} {b e s n k t : Nat} {x : Value} {xs : List Value} {cs : Array Value} {f : Nat × Nat} (h : W.ownsRow b e s x n xs) (hk : W.heap[k]? = some (.cells cs t f)) (he : t ≠ e) : x.ownBlock = none ∨ x.ownBlock ≠ some k := by
  rcases h.2 with ⟨rfl, _⟩ | ⟨g, cap, cur, rfl, _, hg, _⟩
  · exact .inl rfl
  · refine .inr fun e' => ?_
    simp only [Value.ownBlock, Option.some.injEq] at e'
    subst e'
    rw [hg] at hk
    injection hk with hk
    injection hk with _ hk _
    exact he hk.symm
theorem grown_below {W W' : World} (h : Below W.heap.size W W') : W.grownBy W' none := ⟨h.os, h.tape, h.output, h.size, fun k hk _ => h.block k hk⟩
theorem map_keep {w w' : World} {b n : Nat} {N : DataW Unit} (h : siMap w b n N) (hb : Below w.heap.size w w') : siMap w' b n N := h.kept (grown_below hb) (by simp)
/-- .. and it has as many entries as there are texts. -/
def KnownN (N : DataW Unit) (ss : List (List UInt8)) : Prop := Known N ss ∧ Maps.size N = ss.length
theorem knownN_nil : KnownN (.map []) [] := ⟨known_nil, rfl⟩
theorem KnownN.snoc {N : DataW Unit} {ss : List (List UInt8)} (h : KnownN N ss) (ht : Tidy N) {x : List UInt8} (hx : idx ss x = none) : KnownN (N.put (.string x) (.lit (.int .i64 (ss.length : Nat)))) (ss ++ [x]) := by
  refine ⟨h.1.snoc hx, ?_⟩
  have hh := h.1.2 x
  rw [hx] at hh
  rw [size_put ht, hh, if_neg (by simp), h.2, List.length_append, List.length_singleton]
end Go.Proofs.YtclahhkcbkpofaaDoor
/- dfa.alive in memory: rows of those that lead to each state, what is known to live, what is to be gone on from. -/
namespace Go.Proofs.YtclahhkcbkpofaaDoor
open Go.RowKit
theorem el_int : Elem Tryd.prog 23 3 1 8 := Elem.mk_ Tryd.underlying23 (z := .int .i64 0) (by kernel_rfl) rfl (by omega)
/-- A block of cells of another type stays as a row grows. -/
theorem blk_kept {W W' : World} {b e s n k t : Nat} {v : Value} {xs : List Value} {cs : Array Value} {f : Nat × Nat} (ho : W.ownsRow b e s v n xs) (hg : W.grownBy W' v.ownBlock) (hk : W.heap[k]? = some (.cells cs t f)) (he : t ≠ e) : W'.heap[k]? = some (.cells cs t f) := by
  refine (hg.block k (Array.getElem?_eq_some_iff.1 hk).1 fun e' => ?_).trans hk
  rcases row_not_cells ho hk he with h | h
  · rw [h] at e'; cases e'
  · exact h e'.symm
/-- A store into a block of cells keeps another block. -/
theorem blk_other {W : World} {k b j : Nat} {o : Obj} {u : Value} (hk : W.heap[k]? = some o) (h : k ≠ b) : (W.setCell ⟨b, j, none⟩ u).heap[k]? = some o := (Below.heap_setCell _ _ _ k h).trans hk
/-- A row stays as a cell of a block of another type is set. -/
theorem own_other {W : World} {b e s n g j t : Nat} {v u : Value} {xs : List Value} {cs : Array Value} {f : Nat × Nat} (ho : W.ownsRow b e s v n xs) (hk : W.heap[g]? = some (.cells cs t f)) (he : t ≠ e) : (W.setCell ⟨g, j, none⟩ u).ownsRow b e s v n xs :=
  ho.kept (set_grown _ _ _) (row_not_cells ho hk he)
structure AlR (w W : World) (n bk ob : Nat) (F : List Rw) (L : List Bool) (T : Rw) : Prop where
  bel : Below w.heap.size w W
  len : F.length = n
  llen : L.length = n
  back : W.ownsRow w.heap.size 23 1 (.slice (some ⟨bk, 0, none⟩) n n) n (F.map Rw.val)
  out : W.ownsRow w.heap.size 4 1 (.slice (some ⟨ob, 0, none⟩) n n) n (L.map .bool)
  fam : Fam W w.heap.size (T :: F)
section
variable {w W W' : World} {n bk ob : Nat} {F : List Rw} {L : List Bool} {T : Rw}
theorem AlR.keep (h : AlR w W n bk ob F L T) (hb : Below W.heap.size W W') : AlR w W' n bk ob F L T :=
  ⟨bcall h.bel hb, h.len, h.llen, own_kept h.back hb, own_kept h.out hb, h.fam.below hb⟩
theorem own_blk {W : World} {b e s n g c : Nat} {xs : List Value} (h : W.ownsRow b e s (.slice (some ⟨g, 0, none⟩) n c) n xs) : b ≤ g ∧ g < W.heap.size ∧ ∃ cs, W.heap[g]? = some (.cells cs e (0, 0)) := by
  rcases h.2 with ⟨hv, _⟩ | ⟨g', cap, cur, hv, hb, hg, _⟩
  · cases hv
  · injection hv with hv _ _
    injection hv with hv
    injection hv with hv _ _
    subst hv
    exact ⟨hb, (Array.getElem?_eq_some_iff.1 hg).1, _, hg⟩
theorem own_cell {W : World} {b e n g c j : Nat} {u : Value} {xs : List Value} (h : W.ownsRow b e 1 (.slice (some ⟨g, 0, none⟩) n c) n xs) (hu : xs[j]? = some u) : W.cell? ⟨g, j, none⟩ = some u := by
  have := h.cells (g := g) rfl j u hu
  rwa [Addr.add_lit, Nat.zero_add] at this
theorem own_free {W : World} {b e s n g c : Nat} {xs : List Value} (h : W.ownsRow b e s (.slice (some ⟨g, 0, none⟩) n c) n xs) (j : Nat) : W.frozen? ⟨g, j, none⟩ = false := by
  obtain ⟨_, _, cs, hg⟩ := own_blk h
  exact free_at hg j
theorem AlR.backAt (h : AlR w W n bk ob F L T) {t : Nat} {f : Rw} (hf : F[t]? = some f) : W.cell? ⟨bk, t, none⟩ = some f.val := own_cell h.back (by rw [List.getElem?_map, hf]; rfl)
theorem AlR.outAt (h : AlR w W n bk ob F L T) {t : Nat} {b : Bool} (hf : L[t]? = some b) : W.cell? ⟨ob, t, none⟩ = some (.bool b) := own_cell h.out (by rw [List.getElem?_map, hf]; rfl)
theorem AlR.frow (h : AlR w W n bk ob F L T) {t : Nat} {f : Rw} (hf : F[t]? = some f) : f.own W w.heap.size := h.fam.own f (List.mem_cons_of_mem _ (List.mem_of_getElem? hf))
theorem AlR.todo (h : AlR w W n bk ob F L T) : T.own W w.heap.size := h.fam.own T (List.mem_cons_self ..)
/-- A number more behind a row of back. -/
theorem AlR.growB (h : AlR w W n bk ob F L T) {t : Nat} {f y : Rw} (hf : F[t]? = some f) (hg : W.grownBy W' f.val.ownBlock) (hy : y.own W' w.heap.size) (hm : y.val.ownBlock = f.val.ownBlock ∨ ∃ g, y.val.ownBlock = some g ∧ W.heap.size ≤ g) :
    AlR w (W'.setCell ⟨bk, t, none⟩ y.val) n bk ob (F.set t y) L T ∧ W'.cell? ⟨bk, t, none⟩ = some f.val ∧ W'.frozen? ⟨bk, t, none⟩ = false ∧ bk < W'.heap.size ∧
      ∀ (k : Nat) (cs : Array Value) (e : TypeId) (z : Nat × Nat), e ≠ 3 → e ≠ 23 → W.heap[k]? = some (.cells cs e z) → W'.heap[k]? = some (.cells cs e z) ∧ (W'.setCell ⟨bk, t, none⟩ y.val).heap[k]? = some (.cells cs e z) := by
  have hr := h.frow hf
  have hb' : W'.ownsRow w.heap.size 23 1 (.slice (some ⟨bk, 0, none⟩) n n) n (F.map Rw.val) := h.back.kept hg (own_types hr h.back (by decide))
  have ho' : W'.ownsRow w.heap.size 4 1 (.slice (some ⟨ob, 0, none⟩) n n) n (L.map .bool) := h.out.kept hg (own_types hr h.out (by decide))
  obtain ⟨q1, q2, cs, q3⟩ := own_blk hb'
  have hfam : Fam W' w.heap.size ((T :: F).set (t + 1) y) := h.fam.set (by simpa using hf) hg hy hm
  have hset : (F.set t y).map Rw.val = (F.map Rw.val).set t y.val := by rw [List.map_set]
  have hlt : ∀ q, f.val.ownBlock = some q → w.heap.size ≤ q := fun q hq => (hr.lt q hq).1
  refine ⟨⟨?_, by rw [List.length_set]; exact h.len, h.llen, ?_, own_other ho' q3 (by decide), hfam.other q3 (by decide)⟩, ?_, free_at q3 _, q2, fun k cs' e z he1 he2 hk => ?_⟩
  · exact below_set (h.bel.grown hg h.bel.size hlt) q1 (Nat.le_refl _)
  · rw [hset]; exact own_put hb'
  · exact own_cell hb' (by rw [List.getElem?_map, hf]; rfl)
  · have hk' := blk_kept hr hg hk he1
    refine ⟨hk', blk_other hk' fun e' => ?_⟩
    subst e'
    rw [q3] at hk'
    injection hk' with hk'
    injection hk' with _ hk' _
    exact he2 hk'.symm
/-- A number more to be gone on from. -/
theorem AlR.growT (h : AlR w W n bk ob F L T) {y : Rw} (hg : W.grownBy W' T.val.ownBlock) (hy : y.own W' w.heap.size) (hm : y.val.ownBlock = T.val.ownBlock ∨ ∃ g, y.val.ownBlock = some g ∧ W.heap.size ≤ g) :
    AlR w W' n bk ob F L y ∧ ∀ (k : Nat) (cs : Array Value) (e : TypeId) (z : Nat × Nat), e ≠ 3 → W.heap[k]? = some (.cells cs e z) → W'.heap[k]? = some (.cells cs e z) := by
  have hr := h.todo
  have hlt : ∀ q, T.val.ownBlock = some q → w.heap.size ≤ q := fun q hq => (hr.lt q hq).1
  exact ⟨⟨h.bel.grown hg h.bel.size hlt, h.len, h.llen, h.back.kept hg (own_types hr h.back (by decide)), h.out.kept hg (own_types hr h.out (by decide)), h.fam.set (t := 0) rfl hg hy hm⟩, fun k cs e z he hk => blk_kept hr hg hk he⟩
/-- One that is known to live. -/
theorem AlR.setO (h : AlR w W n bk ob F L T) {t : Nat} :
    AlR w (W.setCell ⟨ob, t, none⟩ (.bool true)) n bk ob F (L.set t true) T ∧ W.frozen? ⟨ob, t, none⟩ = false ∧ ob < W.heap.size ∧
      ∀ (k : Nat) (cs : Array Value) (e : TypeId) (z : Nat × Nat), e ≠ 4 → W.heap[k]? = some (.cells cs e z) → (W.setCell ⟨ob, t, none⟩ (.bool true)).heap[k]? = some (.cells cs e z) := by
  obtain ⟨q1, q2, cs, q3⟩ := own_blk h.out
  refine ⟨⟨below_set h.bel q1 (Nat.le_refl _), h.len, by rw [List.length_set]; exact h.llen, own_other h.back q3 (by decide), ?_, h.fam.other q3 (by decide)⟩, free_at q3 _, q2, fun k cs' e z he hk => blk_other hk fun e' => ?_⟩
  · rw [List.map_set]; exact own_put h.out
  · subst e'
    rw [q3] at hk
    injection hk with hk
    injection hk with _ hk _
    exact he hk.symm
/-- The last of those to be gone on from is taken. -/
theorem AlR.cutT (h : AlR w W n bk ob F L T) {A : Option Addr} {c : Nat} {l : List Int} {x : Int} (hT : T = ⟨A, c, l ++ [x]⟩) : AlR w W n bk ob F L ⟨A, c, l⟩ := by
  subst hT
  have hr := h.todo
  refine ⟨h.bel, h.len, h.llen, h.back, h.out, ⟨fun z hz => ?_, ?_⟩⟩
  · rcases List.mem_cons.1 hz with rfl | hz
    · have hr' : W.ownsRow w.heap.size 3 1 (.slice A (l ++ [x]).length c) (l ++ [x]).length ((l ++ [x]).map (.int .i64)) := hr
      have := own_cut (k := l.length) hr' (by simp) (fun e => by
        rcases hr'.2 with ⟨_, h0⟩ | ⟨g, _, _, hv, _⟩
        · simp at h0
        · injection hv with hv _ _
          rw [e] at hv
          cases hv)
      rw [Nat.mul_one, List.map_append, List.take_left' (by simp)] at this
      exact this
    · exact h.fam.own z (List.mem_cons_of_mem _ hz)
  · obtain ⟨h1, h2⟩ := List.pairwise_cons.1 h.fam.ap
    refine List.pairwise_cons.2 ⟨fun z hz => ?_, h2⟩
    have hv : (Rw.val ⟨A, c, l⟩).ownBlock = (Rw.val ⟨A, c, l ++ [x]⟩).ownBlock := by
      cases A <;> rfl
    have := h1 z hz
    unfold Ap at this ⊢
    rw [hv]
    exact this
end
/-- As the rows are made. -/
theorem AlR.start (w : World) (n : Nat) (hn : n ≤ 1000000) {W : World} (hW : W = ((w.alloc (.cells (madeCells #[.slice none 0 0] n) 23)).alloc (.cells #[] 3)).alloc (.cells (madeCells #[.bool false] n) 4)) :
    AlR w W n w.heap.size (w.heap.size + 1 + 1) (List.replicate n ⟨none, 0, []⟩) (List.replicate n false) ⟨some ⟨w.heap.size + 1, 0, none⟩, 0, []⟩ := by
  subst hW
  have b0 := bnew (brefl w) (.cells (madeCells #[.slice none 0 0] n) 23)
  have b1 := bnew b0 (.cells #[] 3)
  have b2 := bnew b1 (.cells (madeCells #[.bool false] n) 4)
  have o0 := own_made w (.slice none 0 0) n (by omega) 23 rfl (Nat.le_refl _)
  have o1 := own_kept (own_kept o0 (bnew (brefl _) (.cells #[] 3))) (bnew (brefl _) (.cells (madeCells #[.bool false] n) 4))
  refine ⟨b2, by simp, by simp, ?_, ?_, ⟨fun x hx => ?_, List.pairwise_cons.2 ⟨fun x hx => ?_, ?_⟩⟩⟩
  · have e : (List.replicate n (⟨none, 0, []⟩ : Rw)).map Rw.val = List.replicate n (.slice none 0 0) := by rw [List.map_replicate]; rfl
    rw [e]
    exact o1
  · rw [List.map_replicate]
    exact own_made _ (.bool false) n (by omega) 4 (by simp) b1.size
  · rcases List.mem_cons.1 hx with rfl | hx
    · have h2 : (w.alloc (.cells (madeCells #[.slice none 0 0] n) 23)).alloc (.cells #[] 3) |>.ownsRow w.heap.size 3 1 (.slice (some ⟨w.heap.size + 1, 0, none⟩) 0 0) 0 [] := own_lit _ 3 1 (by simp) b0.size
      exact own_kept h2 (bnew (brefl _) _)
    · rw [(List.mem_replicate.1 hx).2]
      exact ⟨rfl, .inl ⟨rfl, rfl⟩⟩
  · rw [(List.mem_replicate.1 hx).2]
    exact .inr (.inl rfl)
  · rw [List.pairwise_replicate]
    exact .inr (.inl rfl)
end Go.Proofs.YtclahhkcbkpofaaDoor
/- dfa.cuts: the bytes at which something may change. -/
namespace Go.Proofs.YtclahhkcbkpofaaDoor
open Go.RowKit
/-- A list of arcs that is read, and where it lies. -/
structure Ash where
  A : Option Addr
  c : Nat
  l : List Arc3
def Ash.val (x : Ash) : Value := .slice x.A x.l.length x.c
/-- A row of such lists. -/
structure ListsIn (w : World) (B : Nat) (A : Option Addr) (n : Nat) (Ls : List Ash) : Prop where
  len : Ls.length = n
  sl : Sl w w.heap.size 1 A n (Ls.map Ash.val)
  ar : ∀ x ∈ Ls, ArcsIn w B x.A x.l.length x.c x.l ∧ x.l.length ≤ 2097152 ∧ x.l.length ≤ x.c
  nb : n ≤ 20000
theorem ListsIn.keep {w w' : World} {B n : Nat} {A : Option Addr} {Ls : List Ash} (h : ListsIn w B A n Ls) (hb : Below w.heap.size w w') (hB : B ≤ w.heap.size) : ListsIn w' B A n Ls :=
  ⟨h.len, (h.sl.below hb).more hb.size, fun x hx => ⟨(h.ar x hx).1.keep (hb.mono hB) (Nat.le_refl _), (h.ar x hx).2⟩, h.nb⟩
theorem ListsIn.at_ {w : World} {B n : Nat} {A : Option Addr} {Ls : List Ash} (h : ListsIn w B A n Ls) (hn : 0 < n) : ∃ b off, A = some ⟨b, off, none⟩ ∧ b < w.heap.size ∧ ∀ k x, Ls[k]? = some x → w.cell? ⟨b, off + k, none⟩ = some x.val := by
  obtain ⟨b, off, hA, hb, hc⟩ := h.sl.at_ hn
  exact ⟨b, off, hA, hb, fun k x hx => hc k _ (by rw [List.getElem?_map, hx]; rfl)⟩
def cutA (a : Arc3) : List Int := [a.1, a.2.1 + 1]
def cutL (Ls : List Ash) : List Int := [0, 256] ++ (Ls.flatMap (·.l)).flatMap cutA
set_option maxRecDepth 100000 in
set_option maxHeartbeats 8000000 in
theorem cuts_any (w : World) (B : Nat) (hB : B ≤ w.heap.size) (A : Option Addr) (n c : Nat) (Ls : List Ash) (h : ListsIn w B A n Ls) (hok : ∀ x ∈ Ls, ∀ a ∈ x.l, 0 ≤ a.1 ∧ a.1 ≤ a.2.1 ∧ a.2.1 ≤ 255) :
    Calls Tryd.prog 40 #[.slice A n c] w fun e w' => ∃ (A' : Option Addr) (q c' : Nat), e = .returned (.slice A' q c') ∧ w'.ownsRow w.heap.size 3 1 (.slice A' q c') q ((Lib.compact (sorted (cutL Ls))).map (.int .i64)) ∧ Below w.heap.size w w' := by
  have HS := Lib.hid h
  have HOK := Lib.hid hok
  have hlen := h.len
  have hnb := h.nb
  clear h hok
  go_enter Tryd.func40, Tryd.ntmps40
  go_wp2_with fail
  have HO0 : Hid ((w.alloc (.cells #[.int .i64 0, .int .i64 256] 3)).ownsRow w.heap.size 3 1 (.slice (some ⟨w.heap.size, 0, none⟩) 2 2) 2 (([0, 256] : List Int).map (.int .i64))) := own_new w #[.int .i64 0, .int .i64 256] 3 1 2 rfl (by unfold maxLen; omega) rfl (Nat.le_refl _)
  have HB0 := Lib.hid (bnew (brefl w) (.cells #[.int .i64 0, .int .i64 256] 3))
  go_loopw [3, 11] (fun ov iv wr => ∃ (i q co : Nat) (Ao : Option Addr) (O : List Int), iv = .int .i64 i ∧ ov = .slice Ao q co ∧ i ≤ n ∧ q ≤ 2 + 4194304 * i ∧ Hid (O = [0, 256] ++ ((Ls.take i).flatMap (·.l)).flatMap cutA) ∧ Hid (wr.ownsRow w.heap.size 3 1 (.slice Ao q co) q (O.map (.int .i64))) ∧ Hid (Below w.heap.size w wr)) (fun _ iv _ => n - (intOf iv).toNat)
  case atStart => exact ⟨0, 2, 2, _, [0, 256], rfl, rfl, Nat.zero_le _, by omega, rfl, HO0, HB0⟩
  case round =>
    clear HO0 HB0
    obtain ⟨i, q, co, Ao, O, rfl, rfl, hin, hqb, HO, HR, HB⟩ := hrel
    by_cases hlt : i < n
    · have HW := Lib.hid (HS.out.keep HB.out hB)
      obtain ⟨x, hx⟩ : ∃ x, Ls[i]? = some x := ⟨Ls[i]'(by omega), List.getElem?_eq_getElem _⟩
      obtain ⟨lb, loff, rfl, hlb, hlc⟩ := HW.out.at_ (by omega)
      obtain ⟨m, hm⟩ : ∃ m, x.l.length = m := ⟨_, rfl⟩
      have hxm := List.mem_of_getElem? hx
      have l0 : wr.cell? ⟨lb, loff + i, none⟩ = some (.slice x.A m x.c) := by rw [← hm]; exact hlc i x hx
      have hm20 := (HS.out.ar x hxm).2
      rw [hm] at hm20
      obtain ⟨hm20, hmc⟩ := hm20
      have HM := Lib.hid hm
      have HXM := Lib.hid hxm
      have HTK : Hid ((Ls.take (i + 1)).flatMap (·.l) = (Ls.take i).flatMap (·.l) ++ x.l) := by show _ = _; rw [List.take_add_one, hx, List.flatMap_append]; simp
      clear hx hlc hxm hm
      go_wp2_with fail
      go_loopw [3, 17] (fun ov jv wj => ∃ (j q co : Nat) (Ao : Option Addr) (O : List Int), jv = .int .i64 j ∧ ov = .slice Ao q co ∧ j ≤ m ∧ q ≤ 2 + 4194304 * i + 2 * j ∧ Hid (O = [0, 256] ++ ((Ls.take i).flatMap (·.l) ++ x.l.take j).flatMap cutA) ∧ Hid (wj.ownsRow w.heap.size 3 1 (.slice Ao q co) q (O.map (.int .i64))) ∧ Hid (Below w.heap.size w wj)) (fun _ jv _ => m - (intOf jv).toNat)
      case atStart => exact ⟨0, q, co, Ao, O, rfl, rfl, Nat.zero_le _, by omega, by rw [List.take_zero, List.append_nil]; exact HO, HR, HB⟩
      case round =>
        clear HO HR HB HW l0
        obtain ⟨j, q, co, Ao, O, rfl, rfl, hjm, hqb, HO, HR, HB⟩ := hrel
        by_cases hjl : j < m
        · have HWJ := (HS.out.keep HB.out hB)
          obtain ⟨a, ha⟩ : ∃ a, x.l[j]? = some a := ⟨x.l[j]'(by rw [HM.out]; exact hjl), List.getElem?_eq_getElem _⟩
          obtain ⟨ab, aoff, hxA, hab, hac⟩ := (HWJ.ar x HXM.out).1.at_ (by rw [HM.out]; omega)
          obtain ⟨a0, a1, a2⟩ := hac j a ha
          have habw : ab < wr.heap.size := Nat.lt_of_lt_of_le hab (Nat.le_trans hB HB.out.size)
          have haok := HOK.out x HXM.out a (List.mem_of_getElem? ha)
          have HTJ : Hid (x.l.take (j + 1) = x.l.take j ++ [a]) := by show _ = _; rw [List.take_add_one, ha]; rfl
          rw [hxA]
          obtain ⟨lo, hi, tt⟩ := a
          simp only at a0 a1 a2 haok
          have q1 : IntKind.i64.wrap (hi + 1) = hi + 1 := IntWalk.i64_in _ (by omega)
          have HR1 := Lib.hid (own_kept HR.out (bnew (brefl wr) (.cells #[.int .i64 lo, .int .i64 hi, .int .i64 tt] 63)))
          have HB1 := Lib.hid (bnew HB.out (.cells #[.int .i64 lo, .int .i64 hi, .int .i64 tt] 63))
          have hbs1 := HB1.out.size
          clear hac ha HWJ
          go_wp2_with (at_builtin; refine wpList_pushm w (wr.alloc (.cells #[.int .i64 lo, .int .i64 hi, .int .i64 tt] 63)) _ rfl _ _ _ rfl el_int _ _ _ rfl HR1.out (m := 2) rfl (by simp) rfl (by simp [Value.oneCell']) (by unfold maxLen; omega) (by omega) hbs1 HB1.out ?_; intro v9 w9 hown9 hb9 _ _; obtain ⟨A9, c9, rfl, _⟩ := own_shape hown9; have HO9 := Lib.hid hown9; have HB9 := Lib.hid hb9; clear hown9 hb9)
          have HON : Hid (O ++ [lo, hi + 1] = [0, 256] ++ ((Ls.take i).flatMap (·.l) ++ x.l.take (j + 1)).flatMap cutA) := by
            show _ = _
            rw [HTJ.out, HO.out, ← List.append_assoc, List.flatMap_append, List.flatMap_append, List.flatMap_append]
            simp [cutA]
          have HR9 : Hid (w9.ownsRow w.heap.size 3 1 (.slice A9 (q + 2) c9) (q + 2) ((O ++ [lo, hi + 1]).map (.int .i64))) := by
            rw [List.map_append]
            exact HO9.out
          clear HO9 HR HR1 HO
          go_wp2_with fail
          go_roundw
          case rel => exact ⟨j + 1, q + 2, c9, A9, O ++ [lo, hi + 1], by go_num, rfl, by omega, by omega, HON, HR9, HB9⟩
          case measure => simp [intOf]; omega
        · obtain rfl : m = j := by omega
          have HON : Hid (O = [0, 256] ++ ((Ls.take (i + 1)).flatMap (·.l)).flatMap cutA) := by
            have h1 := HO.out
            have htk : x.l.take m = x.l := List.take_of_length_le (by rw [HM.out]; exact Nat.le_refl _)
            rw [htk] at h1
            show _ = _
            rw [HTK.out]
            exact h1
          clear HO
          go_wp2_with fail
          go_roundw
          case rel => exact ⟨i + 1, q, co, Ao, O, by go_num, rfl, by omega, by omega, HON, HR, HB⟩
          case measure => simp [intOf]; omega
    · obtain rfl : n = i := by omega
      have HOE : Hid (O = cutL Ls) := by
        have h1 := HO.out
        rw [List.take_of_length_le (by omega)] at h1
        exact h1
      have hq0 : 0 < q := by
        have h1 := HR.out.1
        rw [List.length_map, HOE.out, cutL, List.length_append] at h1
        simp at h1
        omega
      have HBS := Lib.hid HB.out.size
      clear HO
      go_wp2_with fail
      refine (sort_own HR.out (by omega)).mono ?_
      rintro e w7 ⟨rfl, hown7, hg7⟩
      have HO7 := Lib.hid hown7
      have HB7 := Lib.hid (HB.out.grown hg7 HB.out.size (fun r hr => (HR.out.lt r hr).1))
      clear hown7 hg7 HR
      go_wp2_with fail
      refine (compact_own HO7.out (by omega) hq0).mono ?_
      rintro e w8 ⟨rfl, hown8, hg8⟩
      have HO8 := Lib.hid hown8
      have HB8 := Lib.hid (HB7.out.grown hg8 HB7.out.size (fun r hr => (HO7.out.lt r hr).1))
      clear hown8 hg8 HO7
      have HLE := Lib.hid HOE.out
      go_wp2_with fail
      go_ret
      exact ⟨_, _, _, rfl, by rw [← HLE.out]; exact HO8.out, HB8.out⟩
end Go.Proofs.YtclahhkcbkpofaaDoor
