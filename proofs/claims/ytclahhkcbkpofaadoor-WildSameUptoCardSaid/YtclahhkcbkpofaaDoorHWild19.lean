/- Loose states of the call's own. -/
import Derived.Test.YtclahhkcbkpofaaDoorHWild13
import Derived.Test.YtclahhkcbkpofaaDoorHWild18
import Derived.Test.YtclahhkcbkpofaaDoorHWild16
namespace Go.Proofs.YtclahhkcbkpofaaDoor
open Go.RowKit

theorem el_loose : Elem Tryd.prog 28 25 3 56 := Elem.mk_ Tryd.underlying28 (z := .agg #[.bool false, .slice none 0 0, .slice none 0 0]) (by kernel_rfl) rfl (by omega)
/-- Append of a whole slice within a region that draws its order. -/
theorem step_apsl {P : Program} {ops : Array Oper} {o : Oper} {a : Act} {K : Act → World → Prop} {Q : Exit → Act → World → Prop} {E : Prop} (w : World) (hgd : o.guard = none) (s x : Operand) (t : TypeId)
    (ho : o.op = .call { callee := .builtin .append, args := #[s, x], argTypes := #[t, t] })
    {base e size bytes : Nat} (he : Elem P t e size bytes) (v : Value) (n : Nat) (xs : List Value) (hs : a.eval s = v) (hown : w.ownsRow base e size v n xs)
    {B : Nat} {A : Option Addr} {m c : Nat} {news : List Value} (hx : a.eval x = .slice A m c) (hsl : Sl w B size A m news) (hc : A = none → m = 0) (h1 : ∀ u ∈ news, u.oneCell' = true)
    (h63 : n + m ≤ maxLen) (hbytes : (n + m) * bytes ≤ 140737488355328) (hbase : base ≤ w.heap.size)
    (h : ∀ v' w', w'.ownsRow base e size v' (n + m) (xs ++ news) → w.grownBy w' v.ownBlock → (v'.ownBlock = v.ownBlock ∨ ∃ g, v'.ownBlock = some g ∧ w.heap.size ≤ g) → K (a.put o.dst v') w') :
    if Region.wanted o (yielded ops a.tmps) = true then Oper.wp P o a w K Q else E := by
  have hw : Region.wanted o (yielded ops a.tmps) = true := by simp [Region.wanted, hgd]
  rw [if_pos hw]
  obtain ⟨v', w', hrun, h2, h3, h4⟩ := run_append_sl (P := P) (ty := o.type) w he hown hsl (c := c) hc h1 h63 hbytes hbase
  unfold Oper.wp
  simp [execOp, ho, resolve, invoke, builtin, hs, hx, hrun, Result.andThen]
  exact h v' w' h2 h3 h4
theorem arcs_cell1 (l : List Arc3) : ∀ u ∈ arcsC l, u.oneCell' = true := fun u hu => by
  unfold arcsC at hu
  obtain ⟨a, _, h⟩ := List.mem_flatMap.1 hu
  simp only [arcC, List.mem_cons, List.not_mem_nil, or_false] at h
  rcases h with rfl | rfl | rfl <;> rfl
theorem ints_cell1 (l : List Int) : ∀ u ∈ l.map (Value.int .i64), u.oneCell' = true := fun u hu => by
  obtain ⟨z, _, rfl⟩ := List.mem_map.1 hu
  rfl
theorem Sl.none_ {w : World} {B size n : Nat} {A : Option Addr} {xs : List Value} (h : Sl w B size A n xs) (hA : A = none) : n = 0 := by
  rcases Nat.eq_zero_or_pos n with h0 | h0
  · exact h0
  · obtain ⟨b, off, e, _⟩ := h.2 h0
    rw [e] at hA
    cases hA
def Lsh.arow (x : Lsh) : GRow := ⟨.slice x.A x.d.arcs.length x.c, x.d.arcs.length, arcsC x.d.arcs⟩
def Lsh.frow (x : Lsh) : GRow := ⟨.slice x.F x.d.free.length x.e, x.d.free.length, x.d.free.map (.int .i64)⟩
/-- Loose states of the call's own. -/
structure LoR (w W : World) (v : Value) (n : Nat) (hs : List Lsh) : Prop where
  out : W.ownsRow w.heap.size 25 3 v n (hs.flatMap Lsh.hdr)
  ar : GFam W w.heap.size 63 3 (hs.map Lsh.arow)
  fr : GFam W w.heap.size 3 1 (hs.map Lsh.frow)
  bel : Below w.heap.size w W
theorem lhdr_len (hs : List Lsh) : (hs.flatMap Lsh.hdr).length = hs.length * 3 := flat_length Lsh.hdr 3 (fun _ => rfl) hs
section
variable {w W W' : World} {v : Value} {n : Nat} {hs : List Lsh}
theorem LoR.len (h : LoR w W v n hs) : hs.length = n := by
  have := h.out.1
  rw [lhdr_len] at this
  omega
theorem LoR.keep (h : LoR w W v n hs) (hb : Below W.heap.size W W') : LoR w W' v n hs := ⟨own_kept h.out hb, h.ar.below hb, h.fr.below hb, bcall h.bel hb⟩
/-- A state more, its rows made since. -/
theorem LoR.push {W1 : World} {v' : Value} {x : Lsh} (h : LoR w W v n hs) (hb : Below W.heap.size W W1) (ha : W1.ownsRow W.heap.size 63 3 (.slice x.A x.d.arcs.length x.c) x.d.arcs.length (arcsC x.d.arcs)) (hf : W1.ownsRow W.heap.size 3 1 (.slice x.F x.d.free.length x.e) x.d.free.length (x.d.free.map (.int .i64)))
    (hg : W1.grownBy W' v.ownBlock) (ho : W'.ownsRow w.heap.size 25 3 v' (n + 1) (hs.flatMap Lsh.hdr ++ x.hdr)) : LoR w W' v' (n + 1) (hs ++ [x]) := by
  have h1 := own_kept h.out hb
  refine ⟨by rw [List.flatMap_append]; simpa using ho, ?_, ?_, (bcall h.bel hb).grown hg (bcall h.bel hb).size fun r hr => (h.out.lt r hr).1⟩
  · have h2 := (h.ar.fresh (y := x.arow) hb h.bel.size ha).turn
    rw [List.map_append]
    exact h2.kept hg fun z hz => own_types h1 (h2.own z hz) (by decide)
  · have h2 := (h.fr.fresh (y := x.frow) hb h.bel.size hf).turn
    rw [List.map_append]
    exact h2.kept hg fun z hz => own_types h1 (h2.own z hz) (by decide)
/-- A bare state more. -/
theorem LoR.bare {v' : Value} (h : LoR w W v n hs) (hg : W.grownBy W' v.ownBlock) (ho : W'.ownsRow w.heap.size 25 3 v' (n + 1) (hs.flatMap Lsh.hdr ++ [.bool false, .slice none 0 0, .slice none 0 0])) : LoR w W' v' (n + 1) (hs ++ [⟨⟨false, [], []⟩, none, 0, none, 0⟩]) :=
  h.push (brefl W) ⟨rfl, .inl ⟨rfl, rfl⟩⟩ ⟨rfl, .inl ⟨rfl, rfl⟩⟩ hg ho
/-- States to be read. -/
theorem LoR.lo {A : Option Addr} {c : Nat} (h : LoR w W (.slice A n c) n hs) (hn : n ≤ 2097152) (ha : ∀ x ∈ hs, x.d.arcs.length ≤ 2097152) (hf : ∀ x ∈ hs, x.d.free.length ≤ 2097152) : LoIn W W.heap.size A n c hs := by
  obtain ⟨A1, c1, e1, h1⟩ := own_shape h.out
  injection e1 with _ _ e1
  refine ⟨h.len, Sl.of_own h.out, by omega, hn, fun x hx => ?_, fun x hx => ?_⟩
  · have ho : W.ownsRow w.heap.size 63 3 (.slice x.A x.d.arcs.length x.c) x.d.arcs.length (arcsC x.d.arcs) := h.ar.own x.arow (List.mem_map.2 ⟨x, hx, rfl⟩)
    obtain ⟨A2, c2, e2, h2⟩ := own_shape ho
    injection e2 with _ _ e2
    exact ⟨Sl.of_own ho, by omega, ha x hx⟩
  · have ho : W.ownsRow w.heap.size 3 1 (.slice x.F x.d.free.length x.e) x.d.free.length (x.d.free.map (.int .i64)) := h.fr.own x.frow (List.mem_map.2 ⟨x, hx, rfl⟩)
    obtain ⟨A2, c2, e2, h2⟩ := own_shape ho
    injection e2 with _ _ e2
    exact ⟨Sl.of_own ho, by omega, hf x hx, (Sl.of_own ho).none_⟩
end
theorem lo_cell {W : World} {b n g c j : Nat} {hs : List Lsh} {x : Lsh} (h : W.ownsRow b 25 3 (.slice (some ⟨g, 0, none⟩) n c) n (hs.flatMap Lsh.hdr)) (hx : hs[j]? = some x) : W.cell? ⟨g, j * 3, none⟩ = some (.bool x.d.fin) ∧ W.cell? ⟨g, j * 3 + 1, none⟩ = some (.slice x.A x.d.arcs.length x.c) ∧ W.cell? ⟨g, j * 3 + 2, none⟩ = some (.slice x.F x.d.free.length x.e) := by
  have k : ∀ q u, x.hdr[q]? = some u → q < 3 → W.cell? ⟨g, j * 3 + q, none⟩ = some u := fun q u hu hq => by
    have := h.cells (g := g) rfl (j * 3 + q) u (by rw [flat_at Lsh.hdr 3 (fun _ => rfl) hs j q x hx hq]; exact hu)
    rwa [Addr.add_lit, Nat.zero_add] at this
  exact ⟨k 0 _ rfl (by omega), k 1 _ rfl (by omega), k 2 _ rfl (by omega)⟩
/-- Rows of other types stay. -/
def Keeps (W W' : World) : Prop := ∀ (b e s n : Nat) (v : Value) (xs : List Value), e ≠ 63 → e ≠ 25 → W.ownsRow b e s v n xs → W'.ownsRow b e s v n xs
theorem Keeps.below {W W' : World} (h : Below W.heap.size W W') : Keeps W W' := fun _ _ _ _ _ _ _ _ ho => own_kept ho h
theorem Keeps.trans {a b c : World} (h : Keeps a b) (h' : Keeps b c) : Keeps a c := fun x e s n v xs h1 h2 ho => h' x e s n v xs h1 h2 (h x e s n v xs h1 h2 ho)
theorem Keeps.loose {W W' : World} {b s n : Nat} {v : Value} {xs : List Value} (ho : W.ownsRow b 25 s v n xs) (hg : W.grownBy W' v.ownBlock) : Keeps W W' := fun _ _ _ _ _ _ _ h2 ho2 => ho2.kept hg (own_types ho ho2 fun h => h2 h.symm)
/-- An arc more behind a state's others, put back into its header. -/
theorem LoR.arc {w W W' : World} {g n c i : Nat} {hs : List Lsh} {x : Lsh} {a : Arc3} {A2 : Option Addr} {c2 : Nat} (h : LoR w W (.slice (some ⟨g, 0, none⟩) n c) n hs) (hx : hs[i]? = some x) (hg : W.grownBy W' (Value.slice x.A x.d.arcs.length x.c).ownBlock)
    (hy : W'.ownsRow w.heap.size 63 3 (.slice A2 (x.d.arcs.length + 1) c2) (x.d.arcs.length + 1) (arcsC x.d.arcs ++ arcC a)) (hm : (Value.slice A2 (x.d.arcs.length + 1) c2).ownBlock = (Value.slice x.A x.d.arcs.length x.c).ownBlock ∨ ∃ q, (Value.slice A2 (x.d.arcs.length + 1) c2).ownBlock = some q ∧ W.heap.size ≤ q) :
    LoR w (W'.setCell ⟨g, i * 3 + 1, none⟩ (.slice A2 (x.d.arcs.length + 1) c2)) (.slice (some ⟨g, 0, none⟩) n c) n (hs.set i ⟨⟨x.d.fin, x.d.arcs ++ [a], x.d.free⟩, A2, c2, x.F, x.e⟩) ∧
    W'.cell? ⟨g, i * 3 + 1, none⟩ = some (.slice x.A x.d.arcs.length x.c) ∧ W'.frozen? ⟨g, i * 3 + 1, none⟩ = false ∧ g < W'.heap.size ∧ Keeps W (W'.setCell ⟨g, i * 3 + 1, none⟩ (.slice A2 (x.d.arcs.length + 1) c2)) := by
  have hxa : W.ownsRow w.heap.size 63 3 (.slice x.A x.d.arcs.length x.c) x.d.arcs.length (arcsC x.d.arcs) := h.ar.own x.arow (List.mem_map.2 ⟨x, List.mem_of_getElem? hx, rfl⟩)
  have hbel := h.bel.grown hg h.bel.size fun r hr => (hxa.lt r hr).1
  have ho1 := h.out.kept hg (own_types hxa h.out (by decide))
  obtain ⟨q1, q2, cs, q3⟩ := own_blk ho1
  obtain ⟨_, k1, _⟩ := lo_cell ho1 hx
  have hxr : (hs.map Lsh.arow)[i]? = some x.arow := by rw [List.getElem?_map, hx]; rfl
  refine ⟨⟨?_, ?_, ?_, below_set hbel q1 (Nat.le_refl _)⟩, k1, free_at q3 _, q2, fun b e s n' v xs he1 he2 ho => own_other (ho.kept hg (own_types hxa ho fun h => he1 h.symm)) q3 fun h => he2 h.symm⟩
  · have h1 := own_put (j := i * 3 + 1) (u := .slice A2 (x.d.arcs.length + 1) c2) ho1
    have e : (hs.flatMap Lsh.hdr).set (i * 3 + 1) (.slice A2 (x.d.arcs.length + 1) c2) = (hs.set i ⟨⟨x.d.fin, x.d.arcs ++ [a], x.d.free⟩, A2, c2, x.F, x.e⟩).flatMap Lsh.hdr := by
      rw [set_split hx]
      conv => lhs; rw [split_at hx]
      have hl : ((hs.take i).flatMap Lsh.hdr).length = i * 3 := by rw [lhdr_len, List.length_take, Nat.min_eq_left (by have := (List.getElem?_eq_some_iff.1 hx).1; omega)]
      rw [List.flatMap_append, List.flatMap_append, List.flatMap_cons, List.flatMap_cons, List.set_append_right _ _ (by omega), hl, Nat.add_sub_cancel_left]
      unfold Lsh.hdr
      simp
    rw [e] at h1
    exact h1
  · rw [List.map_set]
    have h1 := h.ar
    rw [split_at hxr] at h1
    have h2 := h1.grow (W2 := W') (y := (⟨⟨x.d.fin, x.d.arcs ++ [a], x.d.free⟩, A2, c2, x.F, x.e⟩ : Lsh).arow) hg (by
      show W'.ownsRow _ _ _ (.slice A2 (x.d.arcs ++ [a]).length c2) (x.d.arcs ++ [a]).length (arcsC (x.d.arcs ++ [a]))
      rw [List.length_append, List.length_singleton, arcsC_app]
      exact hy) (by
      show (Value.slice A2 (x.d.arcs ++ [a]).length c2).ownBlock = _ ∨ ∃ q, (Value.slice A2 (x.d.arcs ++ [a]).length c2).ownBlock = some q ∧ _
      rw [List.length_append, List.length_singleton]
      exact hm)
    rw [← set_split hxr] at h2
    exact h2.kept (set_grown _ _ _) fun z hz => row_not_cells (h2.own z hz) q3 (by decide)
  · rw [List.map_set]
    have e : (hs.map Lsh.frow).set i (⟨⟨x.d.fin, x.d.arcs ++ [a], x.d.free⟩, A2, c2, x.F, x.e⟩ : Lsh).frow = hs.map Lsh.frow := by
      have e2 : (⟨⟨x.d.fin, x.d.arcs ++ [a], x.d.free⟩, A2, c2, x.F, x.e⟩ : Lsh).frow = x.frow := rfl
      rw [e2]
      apply List.ext_getElem?
      intro j
      by_cases hj : i = j
      · subst hj
        rw [List.getElem?_set_self (by rw [List.length_map]; exact (List.getElem?_eq_some_iff.1 hx).1), List.getElem?_map, hx]
        rfl
      · rw [List.getElem?_set_ne hj]
    rw [e]
    have h2 := h.fr.kept hg fun z hz => own_types hxa (h.fr.own z hz) (by decide)
    exact h2.kept (set_grown _ _ _) fun z hz => row_not_cells (h2.own z hz) q3 (by decide)
end Go.Proofs.YtclahhkcbkpofaaDoor
/- States that are made as they are met, range of bytes by range of bytes (plain Lean). -/
namespace Go.Proofs.YtclahhkcbkpofaaDoor
open Go.RowKit

/-- A walk over things that are told apart as they are. -/
structure Plain {σ : Type} [DecidableEq σ] (W : Bfs σ) : Prop where
  eqv : ∀ z y, W.eqv z y = decide (z = y)
  rep : ∀ x, W.rep x = x
section
variable {σ : Type} [DecidableEq σ] {W : Bfs σ}
def findE {σ : Type} [DecidableEq σ] (y : σ) (met : List σ) : Option Nat := findI (fun z => decide (z = y)) met
theorem Plain.find (h : Plain W) (y : σ) (met : List σ) : findI (fun z => W.eqv z y) met = findE y met := by
  unfold findE
  congr 1
  funext z
  exact h.eqv z y
theorem Plain.refl (h : Plain W) (x : σ) : W.eqv (W.rep x) x = true := by rw [h.rep, h.eqv]; simp
theorem findE_more {y : σ} {met more : List σ} {i : Nat} (h : findE y met = some i) : findE y (met ++ more) = some i := by
  unfold findE at h ⊢
  rw [findI_append, h]
theorem findE_new {y : σ} {met : List σ} (h : findE y met = none) : findE y (met ++ [y]) = some met.length := by
  unfold findE at h ⊢
  rw [findI_append, h]
  simp [findI]
/-- A range of bytes that lead to the same. -/
theorem Plain.row_range (h : Plain W) (x : σ) (met : List σ) (b : Nat) : ∀ m, (∀ c, b ≤ c → c < b + (m + 1) → W.step x c = W.step x b) → W.row x met (b + (m + 1)) = match W.step x b with
    | none => W.row x met b
    | some y => match findE y (W.row x met b) with
      | some _ => W.row x met b
      | none => W.row x met b ++ [y]
  | 0, _ => by
    show W.row x met (b + 1) = _
    rw [Bfs.row]
    cases hs : W.step x b with
    | none => rfl
    | some y =>
      simp only
      rw [h.find, h.rep]
      cases findE y (W.row x met b) <;> rfl
  | m + 1, hc => by
    have ih := h.row_range x met b m fun c h1 h2 => hc c h1 (by omega)
    show W.row x met (b + (m + 1) + 1) = _
    rw [Bfs.row, hc (b + (m + 1)) (by omega) (by omega), ih]
    cases hs : W.step x b with
    | none => rfl
    | some y =>
      simp only
      cases hf : findE y (W.row x met b) with
      | some i =>
        simp only
        rw [h.find, hf]
      | none =>
        simp only
        rw [h.find, findE_new hf]
/-- What the bytes below b lead to is met. -/
theorem Plain.row_has (h : Plain W) (x : σ) (met : List σ) (b : Nat) {c : Nat} (hc : c < b) {y : σ} (hy : W.step x c = some y) : ∃ i, findE y (W.row x met b) = some i := by
  obtain ⟨z, hz, he⟩ := W.row_met h.refl x met b c hc y hy
  rw [h.eqv, decide_eq_true_eq] at he
  subst he
  cases hf : findE z (W.row x met b) with
  | some i => exact ⟨i, rfl⟩
  | none =>
    have := findI_none.1 hf z hz
    simp at this
theorem Plain.num (h : Plain W) (met : List σ) (x : σ) (c : Nat) : W.num met x c = (W.step x c).bind fun y => findE y met := by
  unfold Bfs.num
  cases W.step x c with
  | none => rfl
  | some y => exact h.find y met
/-- Arcs of a range of bytes. -/
theorem Plain.runs_range (h : Plain W) (x : σ) (met : List σ) (b m : Nat) (hc : ∀ c, b ≤ c → c < b + (m + 1) → W.step x c = W.step x b) {y : σ} (hy : W.step x b = some y) {i : Nat} (hi : findE y (W.row x met (b + (m + 1))) = some i) :
    runs (W.num (W.row x met (b + (m + 1))) x) (b + (m + 1)) = joinA (runs (W.num (W.row x met b) x) b) ((b : Int), ((b + m : Nat) : Int), (i : Int)) := by
  have hpre : ∃ more, W.row x met (b + (m + 1)) = W.row x met b ++ more := by
    rw [h.row_range x met b m hc, hy]
    simp only
    split
    · exact ⟨[], by simp⟩
    · exact ⟨_, rfl⟩
  have e1 : runs (W.num (W.row x met (b + (m + 1))) x) b = runs (W.num (W.row x met b) x) b := by
    refine runs_congr b fun c hcb => ?_
    rw [h.num, h.num]
    cases hs : W.step x c with
    | none => rfl
    | some z =>
      obtain ⟨j, hj⟩ := h.row_has x met b hcb hs
      obtain ⟨more, hm⟩ := hpre
      simp only [Option.bind_some]
      rw [hm, findE_more hj, hj]
  rw [runs_const (W.num (W.row x met (b + (m + 1))) x) b i m fun c h1 h2 => by rw [h.num, hc c h1 h2, hy]; exact hi, e1]
theorem Plain.runs_skip (h : Plain W) (x : σ) (met : List σ) (b m : Nat) (hc : ∀ c, b ≤ c → c < b + (m + 1) → W.step x c = W.step x b) (hy : W.step x b = none) :
    W.row x met (b + (m + 1)) = W.row x met b ∧ runs (W.num (W.row x met (b + (m + 1))) x) (b + (m + 1)) = runs (W.num (W.row x met b) x) b := by
  have e1 : W.row x met (b + (m + 1)) = W.row x met b := by rw [h.row_range x met b m hc, hy]
  rw [e1]
  refine ⟨rfl, runs_none _ b (m + 1) fun c h1 h2 => ?_⟩
  rw [h.num, hc c h1 h2, hy]
  rfl
/-- What stands behind i rounds: the first i states are made, the others are as they came. -/
structure MadeP (W : Bfs σ) (fin fin0 : σ → Bool) (x0 : σ) (i : Nat) (met : List σ) (ds : List St) : Prop where
  run : met = W.run i 0 [x0]
  le : i ≤ met.length
  out_ : ds = ((met.take i).map fun x => ((fin x, runs (W.num met x) 256) : St)) ++ (met.drop i).map fun x => (fin0 x, [])
  has : ∀ (j : Nat) x, j < i → met[j]? = some x → ∀ c y, c < 256 → W.step x c = some y → ∃ q, findE y met = some q
theorem MadeP.start (W : Bfs σ) (fin fin0 : σ → Bool) (x0 : σ) : MadeP W fin fin0 x0 0 [x0] [(fin0 x0, [])] := ⟨rfl, Nat.zero_le _, rfl, fun _ _ hj => absurd hj (Nat.not_lt_zero _)⟩
/-- .. in the midst of a round: the bytes below b are gone through. -/
structure MidP (W : Bfs σ) (fin fin0 : σ → Bool) (x0 : σ) (i : Nat) (met : List σ) (x : σ) (b : Nat) (met1 : List σ) (arcs : List Arc3) (fc : Bool) (ds : List St) : Prop where
  got : met[i]? = some x
  row : met1 = W.row x met b
  arcs_ : arcs = runs (W.num met1 x) b
  out_ : ds = ((met.take i).map fun x => ((fin x, runs (W.num met x) 256) : St)) ++ (fc, []) :: (met1.drop (i + 1)).map fun x => (fin0 x, [])
theorem MadeP.enter {fin fin0 : σ → Bool} {x0 x : σ} {i : Nat} {met : List σ} {ds : List St} (h : MadeP W fin fin0 x0 i met ds) (hx : met[i]? = some x) : MidP W fin fin0 x0 i met x 0 met [] (fin0 x) ds := by
  refine ⟨hx, rfl, rfl, ?_⟩
  rw [h.out_]
  congr 1
  obtain ⟨h1, h2⟩ := List.getElem?_eq_some_iff.1 hx
  rw [List.drop_eq_getElem_cons h1, h2, List.map_cons]
end
/-- Its finality is told. -/
theorem MidP.fin {σ : Type} {W : Bfs σ} {fin fin0 : σ → Bool} {x0 x : σ} {i b : Nat} {met met1 : List σ} {arcs : List Arc3} {fc : Bool} {ds : List St} (h : MidP W fin fin0 x0 i met x b met1 arcs fc ds) (hi : i ≤ met.length) (fc' : Bool) : MidP W fin fin0 x0 i met x b met1 arcs fc' (ds.set i (fc', [])) := by
  refine ⟨h.got, h.row, h.arcs_, ?_⟩
  rw [h.out_, List.set_append_right _ _ (by rw [List.length_map, List.length_take]; omega), List.length_map, List.length_take, Nat.min_eq_left hi, Nat.sub_self]
  rfl
section
variable {σ : Type} [DecidableEq σ] {W : Bfs σ}
theorem MidP.skip {fin fin0 : σ → Bool} {x0 x : σ} {i b m : Nat} {met met1 : List σ} {arcs : List Arc3} {fc : Bool} {ds : List St} (hW : Plain W) (h : MidP W fin fin0 x0 i met x b met1 arcs fc ds) (hc : ∀ c, b ≤ c → c < b + (m + 1) → W.step x c = W.step x b) (hy : W.step x b = none) : MidP W fin fin0 x0 i met x (b + (m + 1)) met1 arcs fc ds := by
  obtain ⟨e1, e2⟩ := hW.runs_skip x met b m hc hy
  refine ⟨h.got, by rw [e1]; exact h.row, ?_, h.out_⟩
  rw [h.arcs_, h.row, ← e2, e1]
theorem MidP.old {fin fin0 : σ → Bool} {x0 x y : σ} {i b m q : Nat} {met met1 : List σ} {arcs : List Arc3} {fc : Bool} {ds : List St} (hW : Plain W) (h : MidP W fin fin0 x0 i met x b met1 arcs fc ds) (hc : ∀ c, b ≤ c → c < b + (m + 1) → W.step x c = W.step x b) (hy : W.step x b = some y) (hq : findE y met1 = some q) : MidP W fin fin0 x0 i met x (b + (m + 1)) met1 (joinA arcs ((b : Int), ((b + m : Nat) : Int), (q : Int))) fc ds := by
  have e1 : W.row x met (b + (m + 1)) = met1 := by
    rw [hW.row_range x met b m hc, hy]
    simp only
    rw [← h.row, hq]
  refine ⟨h.got, e1.symm, ?_, h.out_⟩
  have e2 := hW.runs_range x met b m hc hy (i := q) (by rw [e1]; exact hq)
  rw [e1, ← h.row, ← h.arcs_] at e2
  exact e2.symm
theorem MidP.new {fin fin0 : σ → Bool} {x0 x y : σ} {i b m : Nat} {met met1 : List σ} {arcs : List Arc3} {fc : Bool} {ds : List St} (hW : Plain W) (h : MidP W fin fin0 x0 i met x b met1 arcs fc ds) (hc : ∀ c, b ≤ c → c < b + (m + 1) → W.step x c = W.step x b) (hy : W.step x b = some y) (hq : findE y met1 = none) : MidP W fin fin0 x0 i met x (b + (m + 1)) (met1 ++ [y]) (joinA arcs ((b : Int), ((b + m : Nat) : Int), (met1.length : Int))) fc (ds ++ [(fin0 y, [])]) := by
  have e1 : W.row x met (b + (m + 1)) = met1 ++ [y] := by
    rw [hW.row_range x met b m hc, hy]
    simp only
    rw [← h.row, hq]
  have hil := (List.getElem?_eq_some_iff.1 h.got).1
  have hle : i + 1 ≤ met1.length := by
    obtain ⟨more, hm⟩ := W.row_pre x met b
    rw [h.row, hm, List.length_append]
    omega
  refine ⟨h.got, e1.symm, ?_, ?_⟩
  · have e2 := hW.runs_range x met b m hc hy (i := met1.length) (by rw [e1]; exact findE_new hq)
    rw [e1, ← h.row, ← h.arcs_] at e2
    exact e2.symm
  · rw [h.out_, List.drop_append_of_le_length hle, List.map_append]
    simp
theorem MidP.leave {fin fin0 : σ → Bool} {x0 x : σ} {i : Nat} {met met1 : List σ} {arcs : List Arc3} {ds ds0 : List St} (hW : Plain W) (h0 : MadeP W fin fin0 x0 i met ds0) (h : MidP W fin fin0 x0 i met x 256 met1 arcs (fin x) ds) : MadeP W fin fin0 x0 (i + 1) met1 (ds.set i (fin x, arcs)) := by
  obtain ⟨more, hm⟩ := W.row_pre x met 256
  have hil := (List.getElem?_eq_some_iff.1 h.got).1
  rw [← h.row] at hm
  refine ⟨?_, by rw [hm, List.length_append]; omega, ?_, fun j y hj hy c z hcz hs => ?_⟩
  · rw [h.row, Bfs.run_succ, Nat.zero_add, ← h0.run, h.got]
  · rw [h.out_, List.set_append_right _ _ (by rw [List.length_map, List.length_take]; omega), List.length_map, List.length_take, Nat.min_eq_left h0.le, Nat.sub_self, List.set_cons_zero]
    have htake : met1.take (i + 1) = met.take i ++ [x] := by
      rw [hm, List.take_append_of_le_length (by omega), List.take_add_one, h.got]
      rfl
    rw [htake, List.map_append, List.append_assoc]
    have e1 : ((met.take i).map fun x => ((fin x, runs (W.num met x) 256) : St)) = (met.take i).map fun x => ((fin x, runs (W.num met1 x) 256) : St) := by
      refine List.map_congr_left fun y hy => ?_
      obtain ⟨j, hj⟩ := List.mem_iff_getElem?.1 hy
      rw [List.getElem?_take] at hj
      split at hj
      · rename_i hji
        have : runs (W.num met y) 256 = runs (W.num met1 y) 256 := by
          refine runs_congr 256 fun c hc => ?_
          rw [hW.num, hW.num]
          cases hs : W.step y c with
          | none => rfl
          | some z =>
            obtain ⟨q, hq⟩ := h0.has j y hji hj c z hc hs
            simp only [Option.bind_some]
            rw [hm, findE_more hq, hq]
        rw [this]
      · cases hj
    rw [e1, h.arcs_]
    rfl
  · by_cases hji : j < i
    · rw [hm, List.getElem?_append_left (by omega)] at hy
      obtain ⟨q, hq⟩ := h0.has j y hji hy c z hcz hs
      rw [hm]
      exact ⟨q, findE_more hq⟩
    · obtain rfl : j = i := by omega
      rw [hm, List.getElem?_append_left hil, h.got] at hy
      injection hy with hy
      subst hy
      have := hW.row_has x met 256 hcz hs
      rw [← h.row] at this
      exact this
end
theorem run_le {σ : Type} (W : Bfs σ) (x0 : σ) (f : Nat) : ∀ k, (W.run f 0 [x0]).length ≤ (W.run (f + k) 0 [x0]).length
  | 0 => Nat.le_refl _
  | k + 1 => by
    refine Nat.le_trans (run_le W x0 f k) ?_
    rw [← Nat.add_assoc, W.run_succ]
    split
    · rename_i x _
      obtain ⟨more, hm⟩ := W.row_pre x (W.run (f + k) 0 [x0]) 256
      rw [hm, List.length_append]
      omega
    · exact Nat.le_refl _
section
variable {σ : Type} [DecidableEq σ] {W : Bfs σ}
theorem MadeP.last {fin fin0 : σ → Bool} {x0 : σ} {i : Nat} {met : List σ} {ds : List St} (hW : Plain W) (h : MadeP W fin fin0 x0 i met ds) (hi : i = met.length) : ds = W.out fin met ∧ (∀ x ∈ met, W.Met met x) ∧ ∀ f, (W.run f 0 [x0]).length ≤ met.length := by
  subst hi
  refine ⟨?_, fun x hx c hc y hy => ?_, fun f => ?_⟩
  · have := h.out_
    rw [List.take_length, List.drop_length] at this
    rw [this]
    show _ ++ [] = _
    rw [List.append_nil]
    rfl
  · obtain ⟨j, hj⟩ := List.mem_iff_getElem?.1 hx
    obtain ⟨q, hq⟩ := h.has j x (List.getElem?_eq_some_iff.1 hj).1 hj c y hc hy
    obtain ⟨z, hz, he⟩ := findI_some hq
    have he := of_decide_eq_true he
    subst he
    exact ⟨z, List.mem_of_getElem? hz, by rw [hW.eqv]; simp⟩
  · rcases Nat.le_total f met.length with hf | hf
    · obtain ⟨k, hk⟩ : ∃ k, met.length = f + k := ⟨met.length - f, by omega⟩
      have h1 := run_le W x0 f k
      rw [← hk] at h1
      exact Nat.le_trans h1 (by rw [← h.run]; exact Nat.le_refl _)
    · obtain ⟨k, rfl⟩ : ∃ k, f = met.length + k := ⟨f - met.length, by omega⟩
      have h1 := W.run_end (f := met.length) (i := 0) (met := [x0]) (by rw [Nat.zero_add, ← h.run, List.getElem?_eq_none_iff]; exact Nat.le_refl _) k
      rw [h1, ← h.run]
      exact Nat.le_refl _
end
end Go.Proofs.YtclahhkcbkpofaaDoor
