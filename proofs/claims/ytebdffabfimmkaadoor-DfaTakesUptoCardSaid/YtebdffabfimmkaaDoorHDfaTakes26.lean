/- A state's text says what it is told apart by (plain Lean). -/
import Derived.Test.YtebdffabfimmkaaDoorHDfaTakes25
import Derived.Test.YtebdffabfimmkaaDoorHDfaTakes15
import Derived.WalkArith
import Derived.Test.YtebdffabfimmkaaDoorHDfaTakes10
namespace Go.Proofs.YtebdffabfimmkaaDoor
open Go.RowKit

def valD (l : List UInt8) : Nat := l.foldl (fun a c => a * 10 + (c.toNat - 48)) 0
theorem val_dec : ∀ u : Nat, valD (Lib.decDigits u) = u := by
  intro u
  induction u using Nat.strongRecOn with
  | ind u ih =>
    rw [Lib.decDigits]
    split
    · rename_i h
      unfold valD
      simp
      omega
    · rename_i h
      have h1 := ih (u / 10) (by omega)
      unfold valD at h1 ⊢
      rw [List.foldl_append, h1]
      simp
      omega
theorem dec_inj {u v : Nat} (h : Lib.decDigits u = Lib.decDigits v) : u = v := by
  rw [← val_dec u, h, val_dec]
theorem dec_mem : ∀ u : Nat, ∀ c ∈ Lib.decDigits u, 48 ≤ c.toNat ∧ c.toNat ≤ 57 := by
  intro u
  induction u using Nat.strongRecOn with
  | ind u ih =>
    rw [Lib.decDigits]
    split
    · rename_i h
      intro c hc
      rw [List.mem_singleton.1 hc]
      simp
      omega
    · rename_i h
      intro c hc
      rcases List.mem_append.1 hc with hc | hc
      · exact ih (u / 10) (by omega) c hc
      · rw [List.mem_singleton.1 hc]
        simp
        omega
theorem dec_ne (u : Nat) : Lib.decDigits u ≠ [] := by
  rw [Lib.decDigits]
  split <;> simp
def isD (c : UInt8) : Bool := decide (48 ≤ c.toNat ∧ c.toNat ≤ 57)
theorem itoa_nat {z : Int} (h : 0 ≤ z) : Lib.itoa z = Lib.decDigits z.toNat := by
  unfold Lib.itoa
  rw [if_neg (by omega)]
/-- Empty, or it begins with no digit. -/
def Stop (r : List UInt8) : Prop := r = [] ∨ ∃ c t, r = c :: t ∧ isD c = false
theorem digits_cut : ∀ {a b r s : List UInt8}, (∀ x ∈ a, isD x = true) → (∀ x ∈ b, isD x = true) → Stop r → Stop s → a ++ r = b ++ s → a = b ∧ r = s
  | [], [], _, _, _, _, _, _, h => ⟨rfl, h⟩
  | [], y :: b, r, s, _, hb, hr, _, h => by
    rcases hr with rfl | ⟨c, t, rfl, hc⟩
    · cases h
    · injection h with h1 _
      have := hb y (List.mem_cons_self ..)
      rw [← h1, hc] at this
      cases this
  | x :: a, [], r, s, ha, _, _, hs, h => by
    rcases hs with rfl | ⟨c, t, rfl, hc⟩
    · cases h
    · injection h with h1 _
      have := ha x (List.mem_cons_self ..)
      rw [h1, hc] at this
      cases this
  | x :: a, y :: b, r, s, ha, hb, hr, hs, h => by
    injection h with h1 h2
    obtain ⟨e1, e2⟩ := digits_cut (fun z hz => ha z (List.mem_cons_of_mem _ hz)) (fun z hz => hb z (List.mem_cons_of_mem _ hz)) hr hs h2
    exact ⟨by rw [h1, e1], e2⟩
theorem itoa_dig {z : Int} (h : 0 ≤ z) : ∀ x ∈ Lib.itoa z, isD x = true := by
  rw [itoa_nat h]
  intro x hx
  have := dec_mem _ x hx
  unfold isD
  exact decide_eq_true this
theorem itoa_inj {a b : Int} (ha : 0 ≤ a) (hb : 0 ≤ b) (h : Lib.itoa a = Lib.itoa b) : a = b := by
  rw [itoa_nat ha, itoa_nat hb] at h
  have := dec_inj h
  omega
/-- Numbers, then something that is no digit. -/
theorem num_cut {a b : Int} (ha : 0 ≤ a) (hb : 0 ≤ b) {r s : List UInt8} (hr : Stop r) (hs : Stop s) (h : Lib.itoa a ++ r = Lib.itoa b ++ s) : a = b ∧ r = s := by
  obtain ⟨h1, h2⟩ := digits_cut (itoa_dig ha) (itoa_dig hb) hr hs h
  exact ⟨itoa_inj ha hb h1, h2⟩
theorem stop_cons {c : UInt8} {t : List UInt8} (h : isD c = false) : Stop (c :: t) := .inr ⟨c, t, rfl, h⟩
def Pos3 (a : Arc3) : Prop := 0 ≤ a.1 ∧ 0 ≤ a.2.1 ∧ 0 ≤ a.2.2
theorem arcs_stop : ∀ l : List Arc3, Stop (l.flatMap arcT)
  | [] => .inl rfl
  | a :: r => by
    rw [List.flatMap_cons]
    exact stop_cons (by decide)
theorem arcs_inj : ∀ {l l' : List Arc3}, (∀ a ∈ l, Pos3 a) → (∀ a ∈ l', Pos3 a) → l.flatMap arcT = l'.flatMap arcT → l = l'
  | [], [], _, _, _ => rfl
  | [], b :: r, _, _, h => by
    rw [List.flatMap_cons] at h
    cases h
  | a :: r, [], _, _, h => by
    rw [List.flatMap_cons] at h
    cases h
  | a :: r, b :: s, ha, hb, h => by
    rw [List.flatMap_cons, List.flatMap_cons] at h
    obtain ⟨p1, p2, p3⟩ := ha a (List.mem_cons_self ..)
    obtain ⟨q1, q2, q3⟩ := hb b (List.mem_cons_self ..)
    unfold arcT at h
    simp only [List.cons_append, List.append_assoc] at h
    injection h with _ h
    obtain ⟨e1, h⟩ := num_cut p1 q1 (stop_cons (by decide)) (stop_cons (by decide)) h
    injection h with _ h
    obtain ⟨e2, h⟩ := num_cut p2 q2 (stop_cons (by decide)) (stop_cons (by decide)) h
    injection h with _ h
    obtain ⟨e3, h⟩ := num_cut p3 q3 (arcs_stop r) (arcs_stop s) h
    rw [arcs_inj (fun x hx => ha x (List.mem_cons_of_mem _ hx)) (fun x hx => hb x (List.mem_cons_of_mem _ hx)) h]
    congr 1
    exact Prod.ext e1 (Prod.ext e2 e3)
/-- The text says the class, whether it is final, and the arcs. -/
theorem sigT_inj {c c' : Int} {f f' : Bool} {l l' : List Arc3} (hc : 0 ≤ c) (hc' : 0 ≤ c') (hl : ∀ a ∈ l, Pos3 a) (hl' : ∀ a ∈ l', Pos3 a) (h : sigT c f l = sigT c' f' l') : c = c' ∧ f = f' ∧ l = l' := by
  unfold sigT at h
  rw [List.append_assoc, List.append_assoc] at h
  have stop : ∀ (f : Bool) (l : List Arc3), Stop ((if f then [33] else []) ++ l.flatMap arcT) := by
    intro f l
    cases f
    · exact arcs_stop l
    · exact stop_cons (by decide)
  obtain ⟨e1, h2⟩ := num_cut hc hc' (stop f l) (stop f' l') h
  refine ⟨e1, ?_⟩
  have hne : ∀ (l l' : List Arc3), (33 : UInt8) :: l.flatMap arcT ≠ l'.flatMap arcT := by
    intro l l' e
    cases l' with
    | nil => cases e
    | cons b s =>
      rw [List.flatMap_cons] at e
      unfold arcT at e
      injection e with e _
      exact absurd e (by decide)
  cases f <;> cases f'
  · exact ⟨rfl, arcs_inj hl hl' h2⟩
  · exact absurd h2.symm (hne l' l)
  · exact absurd h2 (hne l l')
  · refine ⟨rfl, arcs_inj hl hl' ?_⟩
    simpa using h2
theorem sigT_ne (c : Int) (f : Bool) (l : List Arc3) (hc : 0 ≤ c) : sigT c f l ≠ [] := by
  unfold sigT
  rw [itoa_nat hc]
  intro h
  have h1 := List.append_eq_nil_iff.1 h
  have h2 := List.append_eq_nil_iff.1 h1.1
  exact dec_ne _ h2.1
end Go.Proofs.YtebdffabfimmkaaDoor
/- Maps from numbers to numbers, in memory. -/
namespace Go.Proofs.YtebdffabfimmkaaDoor
open Go.RowKit Go.Maps

theorem lawI : Keyed Tryd.prog 3 := int_keyed Tryd.underlying3
abbrev iiMap {H : Type} (w : World) (b n : Nat) (N : DataW H) : Prop := w.ownsMap Tryd.prog 3 (plainElem Tryd.prog 3) b n N
/-- What the map has at a number; 0 if there is nothing. -/
def numI {H : Type} (N : DataW H) (k : Int) : Int := intOfD (N.atKey (.int .i64 k) (.lit (.int .i64 0)))
def hasI {H : Type} (N : DataW H) (k : Int) : Bool := Maps.has N (.int .i64 k)

set_option maxRecDepth 100000 in
theorem look_ii {H : Type} {w : World} {b n : Nat} {N : DataW H} (h : iiMap w b n N) (k : Int) (h0 : -9223372036854775808 ≤ k) (h1 : k ≤ 9223372036854775807) :
    (Instr.lookup 103 (.map (some b)) (.int .i64 k) true).run Tryd.prog w = .ok (.tuple #[.int .i64 (numI N k), .bool (hasI N k)]) w := by
  obtain ⟨v, ps, hrun, hR⟩ := h.look_ok lawI Tryd.underlying103 (zeroI w) (plainElem_int Tryd.underlying3 (a := 0) (by decide)) (keyOf_int_mk Tryd.underlying3 (WalkArith.wf_i64 ⟨h0, h1⟩))
  obtain ⟨c, rfl, hc, hw⟩ := plainElem_int_inv Tryd.underlying3 hR
  injection hc with hc _
  have e : numI N k = c := by
    unfold numI
    rw [hc]
    rfl
  rw [e]
  exact hrun
set_option maxRecDepth 100000 in
theorem look_ii1 {H : Type} {w : World} {b n : Nat} {N : DataW H} (h : iiMap w b n N) (k : Int) (h0 : -9223372036854775808 ≤ k) (h1 : k ≤ 9223372036854775807) :
    (Instr.lookup 103 (.map (some b)) (.int .i64 k) false).run Tryd.prog w = .ok (.int .i64 (numI N k)) w := by
  obtain ⟨c, hrun, hc, _⟩ := h.lookup_int lawI Tryd.underlying103 Tryd.underlying3 (zeroI w) (keyOf_int_mk Tryd.underlying3 (WalkArith.wf_i64 ⟨h0, h1⟩))
  have e : numI N k = c := by
    unfold numI
    rw [hc]
    rfl
  rw [e]
  exact hrun
theorem numI_put {N : DataW Unit} (h : IsMap N) (k z j : Int) : numI (N.put (.int .i64 k) (.lit (.int .i64 z))) j = if j = k then z else numI N j := by
  unfold numI
  by_cases e : j = k
  · rw [if_pos e, e, atKey_put_same h (by simp [Go.WideAt.IsKeyLit])]
    rfl
  · rw [if_neg e, atKey_put_other (by simpa using e)]
theorem hasI_put {N : DataW Unit} (h : IsMap N) (k z j : Int) : hasI (N.put (.int .i64 k) (.lit (.int .i64 z))) j = (decide (j = k) || hasI N j) := by
  unfold hasI
  by_cases e : j = k
  · rw [e, has_put_same h (by simp [Go.WideAt.IsKeyLit])]
    simp
  · rw [has_put_other (by simpa using e)]
    simp [e]
theorem row_not_mapI {H : Type} {W : World} {b e s n kb m : Nat} {x : Value} {xs : List Value} {N : DataW H} (h : W.ownsRow b e s x n xs) (hm : iiMap W kb m N) : x.ownBlock = none ∨ x.ownBlock ≠ some kb := by
  rcases h.2 with ⟨rfl, _⟩ | ⟨g, cap, cur, rfl, _, hg, _⟩
  · exact .inl rfl
  · refine .inr fun e => ?_
    simp only [Value.ownBlock, Option.some.injEq] at e
    subst e
    obtain ⟨es, clock, hb, _⟩ := hm
    rw [hg] at hb
    cases hb
theorem mapI_keep {w w' : World} {b n : Nat} {N : DataW Unit} (h : iiMap w b n N) (hb : Below w.heap.size w w') : iiMap w' b n N := h.kept (grown_below hb) (by simp)
end Go.Proofs.YtebdffabfimmkaaDoor
/- Rows of the call's own, of one type, no two in one block. -/
namespace Go.Proofs.YtebdffabfimmkaaDoor
open Go.RowKit

structure GRow where
  v : Value
  n : Nat
  xs : List Value
def GRow.nil : GRow := ⟨.slice none 0 0, 0, []⟩
def GRow.own (W : World) (base e s : Nat) (x : GRow) : Prop := W.ownsRow base e s x.v x.n x.xs
theorem GRow.own_nil (W : World) (base e s : Nat) : GRow.nil.own W base e s := ⟨by simp [GRow.nil], .inl ⟨rfl, rfl⟩⟩
/-- Two rows lie apart. -/
def GAp (x y : GRow) : Prop := x.v.ownBlock = none ∨ y.v.ownBlock = none ∨ x.v.ownBlock ≠ y.v.ownBlock
theorem GAp.symm {x y : GRow} (h : GAp x y) : GAp y x := by
  rcases h with h | h | h
  · exact .inr (.inl h)
  · exact .inl h
  · exact .inr (.inr fun e => h e.symm)
structure GFam (W : World) (base e s : Nat) (F : List GRow) : Prop where
  own : ∀ x ∈ F, x.own W base e s
  ap : F.Pairwise GAp
section
variable {W W2 : World} {base e s : Nat} {F a b : List GRow} {x y : GRow}
theorem GFam.below (h : GFam W base e s F) (hb : Below W.heap.size W W2) : GFam W2 base e s F := ⟨fun x hx => own_kept (h.own x hx) hb, h.ap⟩
theorem GAp.kept {x z : GRow} (h : GAp z x) : z.v.ownBlock = none ∨ z.v.ownBlock ≠ x.v.ownBlock := by
  rcases h with h | h | h
  · exact .inl h
  · cases hz : z.v.ownBlock with
    | none => exact .inl rfl
    | some g => exact .inr (by rw [h]; simp)
  · exact .inr h
theorem GFam.grow (h : GFam W base e s (a ++ x :: b)) (hg : W.grownBy W2 x.v.ownBlock) (hy : y.own W2 base e s) (hm : y.v.ownBlock = x.v.ownBlock ∨ ∃ g, y.v.ownBlock = some g ∧ W.heap.size ≤ g) : GFam W2 base e s (a ++ y :: b) := by
  obtain ⟨p1, p2, p3⟩ := List.pairwise_append.1 h.ap
  obtain ⟨p4, p5⟩ := List.pairwise_cons.1 p2
  have hzx : ∀ z, z ∈ a ∨ z ∈ b → GAp z x := fun z hz => by
    rcases hz with hz | hz
    · exact p3 z hz x (List.mem_cons_self ..)
    · exact (p4 z hz).symm
  have hown : ∀ z, z ∈ a ∨ z ∈ b → z.own W base e s := fun z hz => h.own z (by
    rcases hz with hz | hz
    · exact List.mem_append_left _ hz
    · exact List.mem_append_right _ (List.mem_cons_of_mem _ hz))
  have hzy : ∀ z, z ∈ a ∨ z ∈ b → GAp z y := fun z hz => by
    rcases hm with hm | ⟨g, hm, hgs⟩
    · have := hzx z hz
      unfold GAp at this ⊢
      rw [hm]
      exact this
    · cases hzb : z.v.ownBlock with
      | none => exact .inl hzb
      | some k =>
        refine .inr (.inr ?_)
        rw [hzb, hm]
        intro e
        injection e with e
        have := (World.ownsRow.lt (hown z hz) k hzb).2
        omega
  refine ⟨fun z hz => ?_, List.pairwise_append.2 ⟨p1, List.pairwise_cons.2 ⟨fun z hz => (hzy z (.inr hz)).symm, p5⟩, fun z hz u hu => ?_⟩⟩
  · rcases List.mem_append.1 hz with hz | hz
    · exact World.ownsRow.kept (hown z (.inl hz)) hg (hzx z (.inl hz)).kept
    · rcases List.mem_cons.1 hz with rfl | hz
      · exact hy
      · exact World.ownsRow.kept (hown z (.inr hz)) hg (hzx z (.inr hz)).kept
  · rcases List.mem_cons.1 hu with rfl | hu
    · exact hzy z (.inl hz)
    · exact p3 z hz u (List.mem_cons_of_mem _ hu)
/-- The row ahead grows. -/
theorem GFam.head (h : GFam W base e s (x :: F)) (hg : W.grownBy W2 x.v.ownBlock) (hy : y.own W2 base e s) (hm : y.v.ownBlock = x.v.ownBlock ∨ ∃ g, y.v.ownBlock = some g ∧ W.heap.size ≤ g) : GFam W2 base e s (y :: F) := GFam.grow (a := []) h hg hy hm
/-- What grows another row, or changes another block, keeps them. -/
theorem GFam.kept {row : Option Nat} (h : GFam W base e s F) (hg : W.grownBy W2 row) (hn : ∀ x ∈ F, x.v.ownBlock = none ∨ x.v.ownBlock ≠ row) : GFam W2 base e s F := ⟨fun x hx => World.ownsRow.kept (h.own x hx) hg (hn x hx), h.ap⟩
theorem GFam.nil (W : World) (base e s : Nat) : GFam W base e s [] := ⟨fun _ hx => absurd hx List.not_mem_nil, List.Pairwise.nil⟩
/-- A row that is nothing yet. -/
theorem GFam.cons_nil (h : GFam W base e s F) : GFam W base e s (GRow.nil :: F) := ⟨fun x hx => by
  rcases List.mem_cons.1 hx with rfl | hx
  · exact GRow.own_nil _ _ _ _
  · exact h.own x hx, List.pairwise_cons.2 ⟨fun z _ => .inl rfl, h.ap⟩⟩
/-- The row ahead is put behind the others. -/
theorem GFam.turn (h : GFam W base e s (x :: F)) : GFam W base e s (F ++ [x]) := by
  obtain ⟨h1, h2⟩ := List.pairwise_cons.1 h.ap
  refine ⟨fun z hz => h.own z ?_, List.pairwise_append.2 ⟨h2, List.pairwise_singleton _ _, fun z hz u hu => ?_⟩⟩
  · rcases List.mem_append.1 hz with hz | hz
    · exact List.mem_cons_of_mem _ hz
    · rw [List.mem_singleton.1 hz]; exact List.mem_cons_self ..
  · rw [List.mem_singleton.1 hu]
    exact (h1 z hz).symm
theorem GFam.tail (h : GFam W base e s (x :: F)) : GFam W base e s F := ⟨fun z hz => h.own z (List.mem_cons_of_mem _ hz), (List.pairwise_cons.1 h.ap).2⟩
end
theorem own_types' {w : World} {b1 b2 e1 e2 s1 s2 n1 n2 : Nat} {v1 v2 : Value} {x1 x2 : List Value} (h1 : w.ownsRow b1 e1 s1 v1 n1 x1) (h2 : w.ownsRow b2 e2 s2 v2 n2 x2) (he : e2 ≠ e1) : v2.ownBlock = none ∨ v2.ownBlock ≠ v1.ownBlock := own_types h1 h2 fun e => he e.symm
/-- A row that a call has made. -/
theorem GFam.fresh {W W2 : World} {base e s : Nat} {F : List GRow} {y : GRow} (h : GFam W base e s F) (hb : Below W.heap.size W W2) (hbase : base ≤ W.heap.size) (hy : y.own W2 W.heap.size e s) : GFam W2 base e s (y :: F) := by
  refine ⟨fun z hz => ?_, List.pairwise_cons.2 ⟨fun z hz => ?_, h.ap⟩⟩
  · rcases List.mem_cons.1 hz with rfl | hz
    · exact own_lower hy hbase
    · exact own_kept (h.own z hz) hb
  · have := own_apart (h.own z hz) hy (Nat.le_refl _)
    rcases this with h1 | h1
    · exact .inl h1
    · exact .inr (.inr h1)
/-- Two rows change places. -/
theorem GFam.swap {W : World} {base e s : Nat} {F : List GRow} {x y : GRow} (h : GFam W base e s (x :: y :: F)) : GFam W base e s (y :: x :: F) := by
  obtain ⟨h1, h2⟩ := List.pairwise_cons.1 h.ap
  obtain ⟨h3, h4⟩ := List.pairwise_cons.1 h2
  refine ⟨fun z hz => h.own z (by simp only [List.mem_cons] at hz ⊢; rcases hz with h | h | h <;> simp [h]), List.pairwise_cons.2 ⟨fun z hz => ?_, List.pairwise_cons.2 ⟨fun z hz => h1 z (List.mem_cons_of_mem _ hz), h4⟩⟩⟩
  rcases List.mem_cons.1 hz with rfl | hz
  · exact (h1 y (List.mem_cons_self ..)).symm
  · exact h3 z hz
/-- A block of a map is no block of cells. -/
theorem map_not_cells {H : Type} {W : World} {kb m k t : Nat} {f : Nat × Nat} {cs : Array Value} {kt : TypeId} {R : Value → Option (DataW H × List MemPlace)} {N : DataW H} (hm : W.ownsMap Tryd.prog kt R kb m N) (hk : W.heap[k]? = some (.cells cs t f)) : k ≠ kb := by
  intro e
  subst e
  obtain ⟨es, clock, hb, _⟩ := hm
  rw [hk] at hb
  cases hb
theorem row_not_map' {H : Type} {W : World} {b e s n kb m : Nat} {x : Value} {xs : List Value} {kt : TypeId} {R : Value → Option (DataW H × List MemPlace)} {N : DataW H} (h : W.ownsRow b e s x n xs) (hm : W.ownsMap Tryd.prog kt R kb m N) : x.ownBlock = none ∨ x.ownBlock ≠ some kb := by
  rcases h.2 with ⟨rfl, _⟩ | ⟨g, cap, cur, rfl, _, hg, _⟩
  · exact .inl rfl
  · refine .inr fun e => ?_
    simp only [Value.ownBlock, Option.some.injEq] at e
    exact map_not_cells hm hg e
end Go.Proofs.YtebdffabfimmkaaDoor
